import Derived.Calls
import Derived.Below
import Derived.RangeFuncNested
import Derived.Sort.LoopGhostIn
import Derived.KernelRfl
import Derived.Laws.Sem
import Derived.Laws.Entries
import Derived.Laws.Rows
import Derived.Laws.Append
import Derived.Laws.StructEq
set_option linter.unusedSimpArgs false
set_option linter.unusedVariables false

/- Shadow logic, part A: abstract values, memory that doesn't change, objects by number. -/
namespace Go.Sh
open Go.RowKit

/-- Who may append to a row in place: nobody who is told; whoever has it copies (its capacity is its length); the owner of object id. -/
inductive Own where
  | no | clip | op (id : Nat)
  deriving DecidableEq

inductive AV where
  | undef
  | int (k : IntKind) (n : Int)
  | bool (b : Bool)
  | str (s : ByteArray)
  | nilp
  | box (id off : Nat)
  | eptr (cs : List AV)
  | list (sz : Nat) (xs : List (List AV)) (o : Own)
  /-- A row that may change: object id's cells from off on. -/
  | rowp (id off sz n c : Nat)
  | agg (cs : List AV)
  | tup (vs : List AV)
  | map (id : Nat)
  | nilmap
  | fn (f : FuncId) (caps : List AV)
  | nilfn
  | yld (id : Nat)
  | iface (t : TypeId) (v : AV)
  | nili
  deriving Inhabited

/-- An entry of a map. -/
structure MEnt where
  key : AV
  val : AV
  born : Nat
  deriving Inhabited

structure Mem where
  F : Addr → Option Value
  pos : Nat → Nat
  cap : Nat → Nat
  next : Nat
  /-- What lies beside: blocks that hold no cells. -/
  O : Nat → Option Obj
  /-- The calls that wait in the activation. -/
  ds : List Deferred
  /-- The round in which it stands. -/
  ro : Option Nat

structure Mem.up (M M' : Mem) : Prop where
  F : ∀ a v, M.F a = some v → M'.F a = some v
  next : M.next ≤ M'.next
  pos : ∀ id, id < M.next → M'.pos id = M.pos id
  cap : ∀ id, id < M.next → M'.cap id = M.cap id
def emptyBlock : Obj := .deferred (some [])
def markOf (D : Nat) : Deferred := { target := .collected D, args := #[] }
/-- Across code: loops over functions may have left their marks. -/
structure Mem.lem (M M' : Mem) : Prop extends Mem.up M M' where
  O : ∀ k o, M.O k = some o → M'.O k = some o
  ds : ∃ l : List Nat, M'.ds = l.map markOf ++ M.ds ∧ l.Nodup ∧ ∀ D ∈ l, M'.O D = some emptyBlock ∧ M.O D = none
  ro : M'.ro = M.ro
structure Mem.le (M M' : Mem) : Prop extends Mem.up M M' where
  O : ∀ k o, M.O k = some o → M'.O k = some o
  ds : M'.ds = M.ds
  ro : M'.ro = M.ro

theorem Mem.le.refl (M : Mem) : M.le M := ⟨⟨fun _ _ h => h, Nat.le_refl _, fun _ _ => rfl, fun _ _ => rfl⟩, fun _ _ h => h, rfl, rfl⟩
theorem Mem.le.trans {M M' M'' : Mem} (h : M.le M') (k : M'.le M'') : M.le M'' :=
  ⟨⟨fun a v e => k.F a v (h.F a v e), Nat.le_trans h.next k.next, fun id hi => (k.pos id (Nat.lt_of_lt_of_le hi h.next)).trans (h.pos id hi),
    fun id hi => (k.cap id (Nat.lt_of_lt_of_le hi h.next)).trans (h.cap id hi)⟩, fun a v e => k.O a v (h.O a v e), k.ds.trans h.ds, k.ro.trans h.ro⟩

theorem Mem.le.lem {M M' : Mem} (h : M.le M') : M.lem M' := ⟨h.toup, h.O, ⟨[], by simp [h.ds], List.nodup_nil, fun _ h => by cases h⟩, h.ro⟩
theorem Mem.lem.refl (M : Mem) : M.lem M := (Mem.le.refl M).lem
theorem Mem.up.trans {M M' M'' : Mem} (h : M.up M') (k : M'.up M'') : M.up M'' :=
  ⟨fun a v e => k.F a v (h.F a v e), Nat.le_trans h.next k.next, fun id hi => (k.pos id (Nat.lt_of_lt_of_le hi h.next)).trans (h.pos id hi),
    fun id hi => (k.cap id (Nat.lt_of_lt_of_le hi h.next)).trans (h.cap id hi)⟩
theorem Mem.lem.trans {M M' M'' : Mem} (h : M.lem M') (k : M'.lem M'') : M.lem M'' := by
  refine ⟨h.toup.trans k.toup, fun a v e => k.O a v (h.O a v e), ?_, k.ro.trans h.ro⟩
  obtain ⟨l1, h1, h2, h3⟩ := h.ds
  obtain ⟨l2, k1, k2, k3⟩ := k.ds
  refine ⟨l2 ++ l1, by rw [k1, h1, List.map_append, List.append_assoc], ?_, fun D hD => ?_⟩
  · rw [List.nodup_append]
    refine ⟨k2, h2, fun a ha b hb e => ?_⟩
    subst e
    have e1 := (k3 a ha).2
    have e2 := (h3 a hb).1
    rw [e1] at e2; cases e2
  · rcases List.mem_append.1 hD with hD | hD
    · refine ⟨(k3 D hD).1, ?_⟩
      cases ho : M.O D with
      | none => rfl
      | some o => have := h.O D o ho; rw [(k3 D hD).2] at this; cases this
    · exact ⟨k.O _ _ (h3 D hD).1, (h3 D hD).2⟩

def OwnOk (M : Mem) (a : Addr) (n cap : Nat) : Own → Prop
  | .no => True
  | .clip => cap = n
  | .op id => a = ⟨M.pos id, 0, none⟩ ∧ cap = M.cap id ∧ id < M.next

inductive RepV (M : Mem) : AV → Value → Prop
  | undef (x) : RepV M .undef x
  | int (k n) : RepV M (.int k n) (.int k n)
  | bool (b) : RepV M (.bool b) (.bool b)
  | str (s) : RepV M (.str s) (.string s)
  | nilp : RepV M .nilp (.pointer none)
  | box (id off) : id < M.next → RepV M (.box id off) (.pointer (some ⟨M.pos id, off, none⟩))
  | eptr (cs a) (g : Nat → Value) : (∀ j, j < cs.length → M.F (a.add j) = some (g j)) → (∀ j, RepV M (cs.getD j .undef) (g j)) → RepV M (.eptr cs) (.pointer (some a))
  | nils (sz o) : (∀ id, o ≠ .op id) → RepV M (.list sz [] o) (.slice none 0 0)
  | list (sz xs o a cap) (g : Nat → Nat → Value) : (∀ i j, i < xs.length → j < sz → M.F (a.add (i * sz + j)) = some (g i j)) →
      (∀ i j, RepV M ((xs.getD i []).getD j .undef) (g i j)) → (∀ i, i < xs.length → (xs.getD i []).length = sz) → xs.length ≤ cap → cap ≤ maxLen →
      OwnOk M a xs.length cap o → RepV M (.list sz xs o) (.slice (some a) xs.length cap)
  | rowp (id off sz n c) : id < M.next → n ≤ c → c ≤ maxLen → RepV M (.rowp id off sz n c) (.slice (some ⟨M.pos id, off, none⟩) n c)
  /-- A row without room. -/
  | rowp0 (id off sz b) : RepV M (.rowp id off sz 0 0) (.slice b 0 0)
  | agg (cs) (vs : Array Value) : vs.size = cs.length → (∀ j, RepV M (cs.getD j .undef) (vs.getD j Go.undef)) → RepV M (.agg cs) (.agg vs)
  | tup (cs) (vs : Array Value) : vs.size = cs.length → (∀ j, RepV M (cs.getD j .undef) (vs.getD j Go.undef)) → RepV M (.tup cs) (.tuple vs)
  | map (id) : id < M.next → RepV M (.map id) (.map (some (M.pos id)))
  | nilmap : RepV M .nilmap (.map none)
  | fn (f caps) (vs : Array Value) : vs.size = caps.length → (∀ j, RepV M (caps.getD j .undef) (vs.getD j Go.undef)) → RepV M (.fn f caps) (.func (.func f) #[] vs)
  | nilfn : RepV M .nilfn .nilFunc
  | yld (id) : id < M.next → RepV M (.yld id) (.func (.yield (M.pos id)) #[] #[])
  | iface (t v x) : RepV M v x → RepV M (.iface t v) (.iface t x)
  | nili : RepV M .nili .nilIface

theorem OwnOk.mono' {M M' : Mem} (h : M.up M') {a : Addr} {n cap : Nat} {o : Own} (k : OwnOk M a n cap o) : OwnOk M' a n cap o := by
  cases o with
  | no => trivial
  | clip => exact k
  | op id =>
    obtain ⟨h1, h2, h3⟩ := k
    exact ⟨by rw [h.pos id h3]; exact h1, by rw [h.cap id h3]; exact h2, Nat.lt_of_lt_of_le h3 h.next⟩

theorem RepV.mono' {M M' : Mem} (h : M.up M') {v : AV} {x : Value} (k : RepV M v x) : RepV M' v x := by
  induction k with
  | undef x => exact .undef x
  | int k n => exact .int k n
  | bool b => exact .bool b
  | str s => exact .str s
  | nilp => exact .nilp
  | box id off hi => rw [← h.pos id hi]; exact .box id off (Nat.lt_of_lt_of_le hi h.next)
  | eptr cs a g hF _ ih => exact .eptr cs a g (fun j hj => h.F _ _ (hF j hj)) ih
  | nils sz o ho => exact .nils sz o ho
  | list sz xs o a cap g hF _ hl hc hm ho ih => exact .list sz xs o a cap g (fun i j hi hj => h.F _ _ (hF i j hi hj)) ih hl hc hm (ho.mono' h)
  | rowp id off sz n c hi h1 h2 => rw [← h.pos id hi]; exact .rowp id off sz n c (Nat.lt_of_lt_of_le hi h.next) h1 h2
  | rowp0 id off sz b => exact .rowp0 id off sz b
  | agg cs vs hs _ ih => exact .agg cs vs hs ih
  | tup cs vs hs _ ih => exact .tup cs vs hs ih
  | map id hi => rw [← h.pos id hi]; exact .map id (Nat.lt_of_lt_of_le hi h.next)
  | nilmap => exact .nilmap
  | fn f caps vs hs _ ih => exact .fn f caps vs hs ih
  | nilfn => exact .nilfn
  | yld id hi => rw [← h.pos id hi]; exact .yld id (Nat.lt_of_lt_of_le hi h.next)
  | iface t v x _ ih => exact .iface t v x ih
  | nili => exact .nili

theorem RepV.mono {M M' : Mem} (h : M.le M') {v : AV} {x : Value} (k : RepV M v x) : RepV M' v x := k.mono' h.toup
/-- Objects that may change. -/
inductive AObj where
  | cells (t : TypeId) (cs : List AV)
  | spare (t : TypeId) (sz n : Nat)
  | map (es : List MEnt) (clock : Nat)
  /-- A range over a map. -/
  | iter (m : Option Nat) (since : Nat) (seen : List Nat) (last : Nat)
  /-- A loop over a function, in whose round it is. -/
  | busy
  /-- A loop over a function: its function's temporaries, what is assigned, its body, how a round has left it. -/
  | loop (n : Nat) (env : Nat → AV) (ps : Array Tmp) (assign body : Code) (left : Option Code)

abbrev St := Nat → Option AObj
def St.upd (st : St) (id : Nat) (o : AObj) : St := fun i => if i = id then some o else st i
def St.del (st : St) (id : Nat) : St := fun i => if i = id then none else st i

def ObjOk (M : Mem) (w : World) (b cap : Nat) : AObj → Prop
  | .cells t cs => ∃ arr : Array Value, w.heap[b]? = some (.cells arr t (0, 0)) ∧ arr.size = cs.length ∧ (∀ j, RepV M (cs.getD j .undef) (arr.getD j Go.undef)) ∧ ∀ a : Addr, a.block = b → M.F a = none
  | .spare t sz n => ∃ arr : Array Value, w.heap[b]? = some (.cells arr t (0, 0)) ∧ arr.size = cap * sz ∧ n ≤ cap ∧ cap ≤ maxLen ∧ ∀ a : Addr, a.block = b → n * sz ≤ a.off → M.F a = none
  | .map es clock => M.O b = none ∧ ∃ arr : Array MapEntry, w.heap[b]? = some (.map arr clock) ∧ arr.size = es.length ∧ ∀ (j : Nat) (e : MEnt) (x : MapEntry), es[j]? = some e → arr[j]? = some x → RepV M e.key x.key ∧ RepV M e.val x.val ∧ x.born = e.born
  | .iter m since seen last => M.O b = none ∧ w.heap[b]? = some (.mapIter (m.map M.pos) since seen.toArray last) ∧ ∀ i, m = some i → i < M.next
  | .busy => (w.heap[b]?).isSome = true ∧ (M.O b).isSome = true
  | .loop n env ps assign body left => ∃ fn tmps dd, w.heap[b]? = some (.loop { state := if left.isNone then .ready else .done, pending := left, fn, tmps, params := ps, assign, body, defers := dd }) ∧
      tmps.size = n ∧ (∀ d, RepV M (env d) (tmps.getD d Go.undef)) ∧ M.O b = none

structure Inv (B : Nat) (w0 : World) (M : Mem) (st : St) (w : World) : Prop where
  below : Below B w0 w
  size : B ≤ w.heap.size
  mem : ∀ a v, M.F a = some v → w.cell? a = some v
  dom : ∀ id o, st id = some o → id < M.next
  inj : ∀ i j oi oj, st i = some oi → st j = some oj → M.pos i = M.pos j → i = j
  obj : ∀ id o, st id = some o → B ≤ M.pos id ∧ ObjOk M w (M.pos id) (M.cap id) o
  oth : ∀ k o, M.O k = some o → w.heap[k]? = some o ∧ o.isCells = false ∧ B ≤ k
  rnd : ∀ l, M.ro = some l → ∃ r, M.O l = some (.loop r)

/-- Fewer objects are told of. -/
def St.le (st st' : St) : Prop := ∀ id o, st id = some o → st' id = some o
theorem St.le.refl (st : St) : St.le st st := fun _ _ h => h
theorem Inv.weaken {B : Nat} {w0 w : World} {M : Mem} {st st' : St} (h : Inv B w0 M st' w) (k : St.le st st') : Inv B w0 M st w :=
  ⟨h.below, h.size, h.mem, fun id o e => h.dom id o (k id o e), fun i j oi oj e e' => h.inj i j oi oj (k _ _ e) (k _ _ e'), fun id o e => h.obj id o (k id o e), h.oth, h.rnd⟩

abbrev Env := Nat → AV
def Env.put (e : Env) (d : Option Nat) (v : AV) : Env := match d with | some d => fun i => if i = d then v else e i | none => e
def Env.ofList : List (Nat × AV) → Env
  | [] => fun _ => .undef
  | (d, v) :: r => fun i => if i = d then v else Env.ofList r i

def zAV : Value → AV
  | .int k n => .int k n
  | .bool b => .bool b
  | .string s => .str s
  | .pointer none => .nilp
  | .slice none 0 0 => .list 0 [] .clip
  | .map none => .nilmap
  | .nilFunc => .nilfn
  | .nilIface => .nili
  | _ => .undef
theorem zAV_rep (M : Mem) (v : Value) : RepV M (zAV v) v := by
  unfold zAV
  split
  all_goals first | exact .int _ _ | exact .bool _ | exact .str _ | exact .nilp | exact .nils _ _ (fun _ h => by cases h) | exact .nilmap | exact .nilfn | exact .nili | exact .undef _

def Env.op (e : Env) : Operand → AV
  | .tmp t => e t
  | .const v => zAV v
  | .global _ => .undef
  | .func f => .fn f []

structure RepE (M : Mem) (n : Nat) (env : Env) (a : Act) : Prop where
  size : a.tmps.size = n
  defers : a.defers = M.ds
  slot : ∀ d, RepV M (env d) (a.tmps.getD d Go.undef)

theorem RepE.mono {M M' : Mem} (h : M.le M') {n : Nat} {env : Env} {a : Act} (k : RepE M n env a) : RepE M' n env a :=
  ⟨k.size, k.defers.trans h.ds.symm, fun d => (k.slot d).mono h⟩

theorem RepE.op {M : Mem} {n : Nat} {env : Env} {a : Act} (k : RepE M n env a) (x : Operand) : RepV M (env.op x) (a.eval x) := by
  cases x with
  | tmp t => exact k.slot t
  | const v => exact zAV_rep M v
  | global g => exact .undef _
  | func f => exact .fn f [] #[] rfl (fun j => by simpa using RepV.undef _)

theorem RepE.put {M : Mem} {n : Nat} {env : Env} {a : Act} (k : RepE M n env a) (d : Option Nat) (hd : ∀ i, d = some i → i < n) {v : AV} {x : Value} (h : RepV M v x) :
    RepE M n (env.put d v) (a.put d x) := by
  cases d with
  | none => exact k
  | some d =>
    refine ⟨by simp [Act.put, k.size], k.defers, fun i => ?_⟩
    have hdn := hd d rfl
    show RepV M (if i = d then v else env i) ((a.tmps.setIfInBounds d x).getD i Go.undef)
    by_cases hi : i = d
    · subst hi
      rw [if_pos rfl]
      have : (a.tmps.setIfInBounds i x).getD i Go.undef = x := by
        rw [Array.getD_eq_getD_getElem?]
        simp [k.size, hdn]
      rw [this]; exact h
    · rw [if_neg hi]
      have : (a.tmps.setIfInBounds d x).getD i Go.undef = a.tmps.getD i Go.undef := by
        rw [Array.getD_eq_getD_getElem?, Array.getD_eq_getD_getElem?]
        simp [Ne.symm hi]
      rw [this]; exact k.slot i

/-- A less told environment. -/
def Env.le (e e' : Env) : Prop := ∀ d, e d = .undef ∨ e d = e' d
theorem RepE.weaken {M : Mem} {n : Nat} {e e' : Env} {a : Act} (k : RepE M n e' a) (h : Env.le e e') : RepE M n e a :=
  ⟨k.size, k.defers, fun d => by rcases h d with h | h <;> rw [h]; exact .undef _; exact k.slot d⟩
end Go.Sh

/- Shadow logic, part B: types, and how the machine's small steps run over represented values. -/
namespace Go.Sh
open Go.RowKit

inductive TK where
  | int (k : IntKind) | bool | string
  | struct (fs : List (Nat × TypeId))
  | slice (e : TypeId) | array (n : Nat) (e : TypeId) | map (k v : TypeId) | pointer (e : TypeId) | iface | func | other
structure TI where
  k : TK
  size : Nat
  bytes : Nat
  zero : List AV

def tkOf : TypeDesc → TK
  | .int k => .int k
  | .bool => .bool
  | .string => .string
  | .struct fs => .struct (fs.toList.map fun f => (f.offset, f.type))
  | .slice e => .slice e
  | .array n e => .array n e
  | .map k v => .map k v
  | .pointer e => .pointer e
  | .interface _ => .iface
  | .func _ _ _ => .func
  | _ => .other
def tiOf (P : Program) (t : TypeId) : Option TI := do
  let d ← P.underlying t
  let i ← P.info? t
  let z ← i.zero
  some ⟨tkOf d, i.size, i.bytes, z.cells.toList.map zAV⟩

theorem tiOf_some {P : Program} {t : TypeId} {i : TI} (h : tiOf P t = some i) :
    ∃ d inf z, P.underlying t = some d ∧ P.info? t = some inf ∧ inf.zero = some z ∧ tkOf d = i.k ∧ inf.size = i.size ∧ inf.bytes = i.bytes ∧ z.cells.toList.map zAV = i.zero := by
  unfold tiOf at h
  cases h1 : P.underlying t with
  | none => simp [h1] at h
  | some d =>
    cases h2 : P.info? t with
    | none => simp [h1, h2] at h
    | some inf =>
      cases h3 : inf.zero with
      | none => simp [h1, h2, h3] at h
      | some z =>
        simp [h1, h2, h3] at h
        subst h
        exact ⟨d, inf, z, rfl, rfl, h3, rfl, rfl, rfl, rfl⟩

section
variable {P : Program} {w : World}
theorem run_info {t : TypeId} {inf : TypeInfo} (h : P.info? t = some inf) : (typeInfo t).run P w = .ok inf w := by
  simp [typeInfo, h]
theorem run_sizeOf' {t : TypeId} {i : TI} (h : tiOf P t = some i) : (sizeOf t).run P w = .ok i.size w := by
  obtain ⟨d, inf, z, h1, h2, h3, h4, h5, h6, h7⟩ := tiOf_some h
  simp [sizeOf, run_info h2, h5]
def TK.agg : TK → Bool | .struct _ | .array _ _ => true | _ => false
theorem run_isAgg' {t : TypeId} {i : TI} (h : tiOf P t = some i) : (isAgg t).run P w = .ok i.k.agg w := by
  obtain ⟨d, inf, z, h1, h2, h3, h4, h5, h6, h7⟩ := tiOf_some h
  rw [← h4]
  unfold isAgg
  rw [Sem.run_bind, run_underlying h1]
  cases d <;> rfl
theorem run_zeroValue' {t : TypeId} {i : TI} (h : tiOf P t = some i) : ∃ z, (zeroValue t).run P w = .ok z w ∧ z.cells.toList.map zAV = i.zero := by
  obtain ⟨d, inf, z, h1, h2, h3, h4, h5, h6, h7⟩ := tiOf_some h
  exact ⟨z, by simp [zeroValue, run_info h2, h3], h7⟩

/-! ### loads -/
theorem run_loadCellsFrom (a : Addr) (g : Nat → Value) : ∀ (n i : Nat) (acc : Array Value), (∀ j, i ≤ j → j < i + n → w.cell? (a.add j) = some (g j)) →
    (loadCellsFrom a i n acc).run P w = .ok (acc ++ ((List.range' i n).map g).toArray) w := by
  intro n
  induction n with
  | zero => intro i acc _; simp [loadCellsFrom]
  | succ n ih =>
    intro i acc h
    have h0 := h i (Nat.le_refl _) (by omega)
    simp only [loadCellsFrom, Sem.run_bind, run_load, h0, Result.andThen_ok]
    rw [ih (i + 1) (acc.push (g i)) (fun j h1 h2 => h j (by omega) (by omega))]
    simp [List.range'_succ]
theorem run_loadCells' (a : Addr) (g : Nat → Value) (n : Nat) (h : ∀ j, j < n → w.cell? (a.add j) = some (g j)) :
    (loadCells a n).run P w = .ok ((List.range n).map g).toArray w := by
  unfold loadCells
  rw [run_loadCellsFrom a g n 0 #[] (fun j _ hj => h j (by omega))]
  simp [List.range_eq_range']
theorem run_loadVar' {t : TypeId} {i : TI} (h : tiOf P t = some i) (a : Addr) (g : Nat → Value) (hn : i.k.agg = false → 0 < i.size)
    (hg : ∀ j, j < i.size → w.cell? (a.add j) = some (g j)) :
    (loadVar t a).run P w = .ok (if i.k.agg then .agg ((List.range i.size).map g).toArray else g 0) w := by
  unfold loadVar
  simp only [Sem.run_bind, run_isAgg' h, Result.andThen_ok]
  cases ha : i.k.agg with
  | true => simp [run_sizeOf' h, run_loadCells' a g i.size hg]
  | false =>
    have := hg 0 (hn ha)
    rw [show a.add 0 = a from rfl] at this
    simp [this]

/-! ### stores -/
def splice (arr : Array Value) (k : Nat) : List Value → Array Value
  | [] => arr
  | v :: vs => splice (arr.setIfInBounds k v) (k + 1) vs
def putRow (w : World) (b : Nat) (arr : Array Value) (t : TypeId) : World := { w with heap := w.heap.setIfInBounds b (.cells arr t (0, 0)) }
theorem putRow_same (w : World) (b : Nat) (arr : Array Value) (t : TypeId) (h : w.heap[b]? = some (.cells arr t (0, 0))) : putRow w b arr t = w := by
  obtain ⟨hb, he⟩ := Array.getElem?_eq_some_iff.1 h
  unfold putRow
  have : w.heap.setIfInBounds b (.cells arr t (0, 0)) = w.heap := by
    apply Array.ext
    · simp
    · intro i h1 h2
      rw [Array.getElem_setIfInBounds]
      split
      · rename_i e; subst e; exact he.symm
      · rfl
  rw [this]
theorem putRow_putRow (w : World) (b : Nat) (arr arr' : Array Value) (t : TypeId) : putRow (putRow w b arr t) b arr' t = putRow w b arr' t := by
  unfold putRow
  simp
theorem setCell_row (w : World) (b k : Nat) (arr : Array Value) (t : TypeId) (v : Value) (h : w.heap[b]? = some (.cells arr t (0, 0))) :
    w.setCell ⟨b, k, none⟩ v = putRow w b (arr.setIfInBounds k v) t := by
  obtain ⟨hb, he⟩ := Array.getElem?_eq_some_iff.1 h
  unfold World.setCell putRow
  congr 1
  apply Array.ext
  · simp
  · intro i h1 h2
    rw [Array.getElem_modify, Array.getElem_setIfInBounds]
    · by_cases e : b = i
      · subst e; simp [he]
      · simp [e]
    · simpa using h2
theorem heap_putRow (w : World) (b : Nat) (arr : Array Value) (t : TypeId) (hb : b < w.heap.size) : (putRow w b arr t).heap[b]? = some (.cells arr t (0, 0)) := by
  unfold putRow
  simp [hb]
theorem heap_putRow_ne (w : World) (b c : Nat) (arr : Array Value) (t : TypeId) (hb : c ≠ b) : (putRow w b arr t).heap[c]? = w.heap[c]? := by
  unfold putRow
  rw [Array.getElem?_setIfInBounds_ne (Ne.symm hb)]
theorem size_putRow (w : World) (b : Nat) (arr : Array Value) (t : TypeId) : (putRow w b arr t).heap.size = w.heap.size := by simp [putRow]
theorem size_splice (vs : List Value) : ∀ (arr : Array Value) (k : Nat), (splice arr k vs).size = arr.size := by
  induction vs with
  | nil => intro _ _; rfl
  | cons v vs ih => intro arr k; simp [splice, ih]
theorem run_storeCells (t : TypeId) (b off : Nat) : ∀ (vs : List Value) (i : Nat) (arr : Array Value) (w : World), w.heap[b]? = some (.cells arr t (0, 0)) →
    (∀ v ∈ vs, v.oneCell' = true) → off + i + vs.length ≤ arr.size →
    (storeCells ⟨b, off, none⟩ vs i).run P w = .ok () (putRow w b (splice arr (off + i) vs) t) := by
  intro vs
  induction vs with
  | nil => intro i arr w h _ _; simp [storeCells, splice, putRow_same w b arr t h]
  | cons v vs ih =>
    intro i arr w h hv hl
    have hadd : (⟨b, off, none⟩ : Addr).add i = ⟨b, off + i, none⟩ := Addr.add_lit b off i
    have hc : w.cell? ⟨b, off + i, none⟩ = some (arr[off + i]'(by simp at hl; omega)) := by
      rw [cell_of_row w b (off + i) arr t (0, 0) h]
      simp at hl
      simp [show off + i < arr.size by omega]
    have hf : w.frozen? ⟨b, off + i, none⟩ = false := frozen_of_row w b (off + i) arr t h
    simp only [storeCells, Sem.run_bind, hadd]
    rw [run_store P w _ v _ (hv v (by simp)), hc]
    simp only [hf, Bool.false_eq_true, if_false, Result.andThen_ok]
    rw [setCell_row w b (off + i) arr t v h]
    have hb := (Array.getElem?_eq_some_iff.1 h).1
    rw [ih (i + 1) (arr.setIfInBounds (off + i) v) _ (heap_putRow _ _ _ _ hb) (fun u hu => hv u (by simp [hu])) (by simp at hl ⊢; omega)]
    rw [putRow_putRow]
    rfl
end
end Go.Sh

/- Shadow logic, part C: what an operation does, in abstract values. -/
namespace Go.Sh
open Go.RowKit

/-- Cells of a value, if it is known. -/
def AV.cells? : AV → Option (List AV)
  | .undef => none
  | .agg cs => some cs
  | .tup _ => none
  | v => some [v]
def AV.one : AV → Bool
  | .undef | .agg _ | .tup _ => false
  | _ => true

def RepL (M : Mem) (cs : List AV) (vs : Array Value) : Prop := vs.size = cs.length ∧ ∀ j, RepV M (cs.getD j .undef) (vs.getD j Go.undef)
theorem RepV.cells {M : Mem} {v : AV} {x : Value} (h : RepV M v x) {cs : List AV} (hc : v.cells? = some cs) : RepL M cs x.cells := by
  have single : ∀ {v : AV} {x : Value}, RepV M v x → x.cells = #[x] → RepL M [v] x.cells := by
    intro v x h e
    rw [e]
    refine ⟨rfl, fun j => ?_⟩
    cases j with
    | zero => simpa using h
    | succ j => simpa using RepV.undef _
  cases h <;> simp only [AV.cells?, Option.some.injEq, reduceCtorEq] at hc
  case agg cs' vs hs hr => subst hc; exact ⟨hs, hr⟩
  all_goals (subst hc; first | exact single (by constructor <;> assumption) rfl | skip)
theorem RepV.one {M : Mem} {v : AV} {x : Value} (h : RepV M v x) (hc : v.one = true) : x.oneCell' = true := by
  cases h <;> first | rfl | (simp [AV.one] at hc)

def spliceL (l : List AV) (k : Nat) : List AV → List AV
  | [] => l
  | v :: vs => spliceL (l.set k v) (k + 1) vs
theorem length_spliceL (vs : List AV) : ∀ (l : List AV) (k : Nat), (spliceL l k vs).length = l.length := by
  induction vs with
  | nil => intro _ _; rfl
  | cons v vs ih => intro l k; simp [spliceL, ih]
theorem RepL.set {M : Mem} {cs : List AV} {vs : Array Value} (h : RepL M cs vs) (k : Nat) (hk : k < cs.length) {v : AV} {x : Value} (hx : RepV M v x) :
    RepL M (cs.set k v) (vs.setIfInBounds k x) := by
  refine ⟨by simp [h.1], fun j => ?_⟩
  rw [List.getD_eq_getElem?_getD, Array.getD_eq_getD_getElem?, List.getElem?_set, Array.getElem?_setIfInBounds]
  have hk' : k < vs.size := by rw [h.1]; exact hk
  by_cases e : k = j
  · subst e; simp [hk, hk', hx]
  · have := h.2 j
    rw [List.getD_eq_getElem?_getD, Array.getD_eq_getD_getElem?] at this
    simpa [e] using this
theorem RepL.splice {M : Mem} : ∀ (vs : List AV) (xs : List Value) {cs : List AV} {arr : Array Value}, RepL M cs arr → ∀ k, k + vs.length ≤ cs.length → RepL M vs xs.toArray →
    RepL M (spliceL cs k vs) (Sh.splice arr k xs) := by
  intro vs
  induction vs with
  | nil =>
    intro xs cs arr h k _ hx
    have : xs = [] := by simpa using hx.1
    subst this; exact h
  | cons v vs ih =>
    intro xs cs arr h k hk hx
    cases xs with
    | nil => simp [RepL] at hx
    | cons x xs =>
      simp only [List.length_cons] at hk
      refine ih xs (h.set k (by omega) (by simpa using hx.2 0)) (k + 1) (by simp; omega) ⟨by simpa using hx.1, fun j => ?_⟩
      have := hx.2 (j + 1)
      simpa using this
theorem RepL.mono {M M' : Mem} (h : M.le M') {cs : List AV} {vs : Array Value} (k : RepL M cs vs) : RepL M' cs vs := ⟨k.1, fun j => (k.2 j).mono h⟩
theorem RepL.extract {M : Mem} {cs : List AV} {vs : Array Value} (h : RepL M cs vs) (i n : Nat) : RepL M ((cs.drop i).take n) (vs.extract i (i + n)) := by
  refine ⟨?_, fun j => ?_⟩
  · have := h.1
    simp; omega
  · have := h.2 (i + j)
    rw [List.getD_eq_getElem?_getD, Array.getD_eq_getD_getElem?] at this ⊢
    rw [List.getElem?_take, List.getElem?_drop, Array.getElem?_extract]
    have hs := h.1
    by_cases hj : j < n
    · rw [if_pos hj]
      by_cases h2 : i + j < vs.size
      · rw [if_pos (by omega)]; exact this
      · have h3 : cs[i + j]? = none := by rw [List.getElem?_eq_none]; omega
        rw [h3]; exact .undef _
    · rw [if_neg hj]; exact .undef _
theorem RepL.ofZero (M : Mem) (z : Array Value) : RepL M (z.toList.map zAV) z := by
  refine ⟨by simp, fun j => ?_⟩
  rw [List.getD_eq_getElem?_getD, Array.getD_eq_getD_getElem?]
  by_cases h : j < z.size
  · simp [h, zAV_rep]
  · simp [h]; exact .undef _

def fillAV (place : Nat → Option (Nat × Nat)) (cells : List AV) : List (Nat × AV) → Option (List AV)
  | [] => some cells
  | (i, v) :: rest =>
    match place i, v.cells? with
    | some (off, size), some cs => if cs.length = size ∧ off + cs.length ≤ cells.length then fillAV place (spliceL cells off cs) rest else none
    | _, _ => none
theorem foldl_zipIdx_splice (off : Nat) : ∀ (xs : List Value) (k : Nat) (cs : Array Value),
    (xs.zipIdx k).foldl (fun (cs : Array Value) (p : Value × Nat) => cs.setIfInBounds (off + p.2) p.1) cs = Sh.splice cs (off + k) xs := by
  intro xs
  induction xs with
  | nil => intro k cs; rfl
  | cons x xs ih => intro k cs; simp only [List.zipIdx_cons, List.foldl_cons, Sh.splice]; rw [ih]; rfl
theorem fill_rep {M : Mem} (place : Nat → Option (Nat × Nat)) : ∀ (ps : List (Nat × AV)) (qs : List (Nat × Value)) (cs : List AV) (arr : Array Value) (out : List AV),
    RepL M cs arr → ps.map (·.1) = qs.map (·.1) → (∀ (j : Nat) (p : Nat × AV) (q : Nat × Value), ps[j]? = some p → qs[j]? = some q → RepV M p.2 q.2) → fillAV place cs ps = some out →
    ∃ arr', Instr.fill place arr qs = some arr' ∧ RepL M out arr' := by
  intro ps
  induction ps with
  | nil =>
    intro qs cs arr out h he _ hf
    have : qs = [] := by simpa using he.symm
    subst this
    simp only [fillAV, Option.some.injEq] at hf
    subst hf
    exact ⟨arr, rfl, h⟩
  | cons p ps ih =>
    intro qs cs arr out h he hr hf
    cases qs with
    | nil => simp at he
    | cons q qs =>
      obtain ⟨i, v⟩ := p
      obtain ⟨i', x⟩ := q
      simp only [List.map_cons, List.cons.injEq] at he
      obtain ⟨e1, e2⟩ := he
      subst e1
      unfold fillAV at hf
      cases hp : place i with
      | none => simp [hp] at hf
      | some os =>
        obtain ⟨off, size⟩ := os
        cases hc : v.cells? with
        | none => simp [hp, hc] at hf
        | some vc =>
          simp only [hp, hc] at hf
          split at hf
          · rename_i hcond
            obtain ⟨h1, h2⟩ := hcond
            have hx : RepV M v x := hr 0 _ _ rfl rfl
            have hxc := hx.cells hc
            have hsz : x.cells.size = vc.length := hxc.1
            obtain ⟨arr', ha, hb⟩ := ih qs (spliceL cs off vc) (Sh.splice arr off x.cells.toList) out
              (RepL.splice vc x.cells.toList h off h2 (by simpa using hxc)) e2
              (fun j p q hp hq => hr (j + 1) p q (by simpa using hp) (by simpa using hq)) hf
            refine ⟨arr', ?_, hb⟩
            unfold Instr.fill
            simp only [hp]
            rw [if_neg (by simp [hsz, h1]; have := h.1; omega)]
            rw [← Array.foldl_toList, Array.toList_zipIdx]
            have := foldl_zipIdx_splice off x.cells.toList 0 arr
            rw [Nat.add_zero] at this
            rw [this]
            exact ha
          · cases hf
end Go.Sh

/- Shadow logic, part D: an operation's abstract outcome. -/
namespace Go.Sh
open Go.RowKit

inductive SK where | int | bool | str
inductive ORes where
  | val (v : AV)
  | load (id off n : Nat) (ag : Bool)
  | store (id off : Nat) (cs : List AV)
  | new (t : TypeId) (cs : List AV)
  | lit (sz : Nat) (xs : List (List AV))
  | app (e sz bytes : Nat) (xs ys : List (List AV)) (o : Own)
  | appr (e sz bytes id off n c : Nat) (ys : List (List AV))
  | call (f : FuncId) (args : List AV)
  | yield (id : Nat) (args : List AV)
  | mnew
  | mget (id : Nat) (k : SK) (key : AV) (ok : Bool) (z : AV)
  | mset (id : Nat) (k : SK) (key v : AV)
  | mdel (id : Nat) (k : SK) (key : AV)
  | mlen (id : Nat)
  | mrange (id : Nat)
  | mnext (id : Nat)
  | mentry (id : Nat)
  | clr (id off m : Nat)
  | stuck

def avEq1 : SK → AV → AV → Option Bool
  | .int, .int k a, .int k' b => if k = k' then some (decide (a = b)) else none
  | .bool, .bool a, .bool b => some (decide (a = b))
  | .str, .str a, .str b => some (decide (a = b))
  | _, _, _ => none
def avEqs : List SK → List AV → List AV → Option Bool
  | [], [], [] => some true
  | k :: ks, a :: as, b :: bs =>
    match avEq1 k a b, avEqs ks as bs with
    | some x, some y => some (x && y)
    | _, _ => none
  | _, _, _ => none

/-- Where a key is. -/
def mfind (k : SK) (key : AV) : List MEnt → Nat → Option (Option (Nat × AV))
  | [], _ => some none
  | e :: es, i => match avEq1 k key e.key with
    | some true => some (some (i, e.val))
    | some false => mfind k key es (i + 1)
    | none => none
def msetL (key v : AV) : List MEnt → Nat → List MEnt
  | [], _ => []
  | e :: es, 0 => ⟨key, v, e.born⟩ :: es
  | e :: es, i + 1 => e :: msetL key v es i
/-- What is left of a range. -/
def leftA (es : List MEnt) (seen : List Nat) : List MEnt := es.filter fun e => !seen.contains e.born
def zAVv : Value → AV
  | .agg cs => .agg (cs.toList.map zAV)
  | v => zAV v
/-- A type's zero value. -/
def zvOf (P : Program) (t : TypeId) : Option AV := ((P.info? t).bind (·.zero)).map zAVv

def scalarK (P : Program) (t : TypeId) : Option SK :=
  match P.underlying t with
  | some (.int _) => some .int
  | some .bool => some .bool
  | some .string => some .str
  | _ => none
def kindsOf (P : Program) : List Field → Nat → Option (List SK)
  | [], _ => some []
  | f :: fs, j => if f.name = "_" ∨ f.offset ≠ j then none else
    match scalarK P f.type, kindsOf P fs (j + 1) with
    | some k, some ks => some (k :: ks)
    | _, _ => none
/-- A struct type of whole numbers, bools and strings alone, each of one cell, which '==' compares field by field: their kinds. -/
def eqFlat (P : Program) (t : TypeId) : Option (List SK) :=
  match P.underlying t with
  | some (.struct fs) => if P.stoodInHeld t || P.eqGuardType P.depth t then none else kindsOf P fs.toList 0
  | _ => none

def avBin (P : Program) (op : BinOp) (t : TypeId) : AV → AV → ORes
  | .int k a, .int k' b => if k = k' then match op with
    | .add => .val (.int k (k.wrap (a + b)))
    | .sub => .val (.int k (k.wrap (a - b)))
    | .mul => .val (.int k (k.wrap (a * b)))
    | .eql => .val (.bool (decide (a = b)))
    | .neq => .val (.bool (!decide (a = b)))
    | .lss => .val (.bool (decide (a < b)))
    | .leq => .val (.bool (decide (a ≤ b)))
    | .gtr => .val (.bool (decide (b < a)))
    | .geq => .val (.bool (decide (b ≤ a)))
    | .rem => if b = 0 then .stuck else .val (.int k (a.tmod b))
    | .quo => if b = 0 then .stuck else .val (.int k (k.wrap (a.tdiv b)))
    | _ => .stuck else .stuck
  | .bool a, .bool b => match op with
    | .eql => match P.underlying t with | some .bool => .val (.bool (decide (a = b))) | _ => .stuck
    | .neq => match P.underlying t with | some .bool => .val (.bool (!decide (a = b))) | _ => .stuck
    | _ => .stuck
  | .str a, .str b => match op with
    | .add => if a.size + b.size ≤ 9223372036854775807 then .val (.str (a ++ b)) else .stuck
    | .eql => .val (.bool (decide (a = b)))
    | .neq => .val (.bool (!decide (a = b)))
    | .lss => .val (.bool (Op.bytesLess a.toList b.toList))
    | _ => .stuck
  | .agg xs, .agg ys => match eqFlat P t with
    | some ks => match op, avEqs ks xs ys with
      | .eql, some r => .val (.bool r)
      | .neq, some r => .val (.bool !r)
      | _, _ => .stuck
    | none => .stuck
  | _, _ => .stuck

def placeS (P : Program) (fs : List (Nat × TypeId)) (j : Nat) : Option (Nat × Nat) :=
  match fs[j]? with
  | some (off, t) => match tiOf P t with | some i => some (off, i.size) | none => none
  | none => none

def hasAll (P : Program) (fs : List (Nat × TypeId)) : Bool := fs.all fun f => (tiOf P f.2).isSome
def chunks (sz : Nat) (flat : List AV) (n : Nat) : List (List AV) := (List.range n).map fun i => (flat.drop (i * sz)).take sz

def evalOp (P : Program) (ρ : Operand → AV) : Op → ORes
  | .move x => .val (ρ x)
  | .assign x => .val (ρ x)
  | .pick c a b => match ρ c with
    | .bool true => .val (ρ a)
    | .bool false => .val (ρ b)
    | _ => .stuck
  | .alloc t => match tiOf P t with | some i => .new t i.zero | none => .stuck
  | .box t x => match (ρ x).cells? with | some cs => .new t cs | none => .stuck
  | .build t parts => match tiOf P t with
    | some i => match i.k with
      | .struct fs => if hasAll P fs then match fillAV (placeS P fs) i.zero (parts.toList.map fun (j, x) => (j, ρ x)) with
        | some cs => .val (.agg cs)
        | none => .stuck
        else .stuck
      | _ => .stuck
    | none => .stuck
  | .buildSlice t len parts => match tiOf P t with
    | some i => match i.k with
      | .slice e => match tiOf P e with
        | some ie => if len * ie.size ≤ 16777216 ∧ 0 < ie.size ∧ ie.zero.length = ie.size ∧ len ≤ 16777216 then
            match fillAV (fun j => some (j * ie.size, ie.size)) ((List.replicate len ie.zero).flatten) (parts.toList.map fun (j, x) => (j, ρ x)) with
            | some flat => .lit ie.size (chunks ie.size flat len)
            | none => .stuck
          else .stuck
        | none => .stuck
      | _ => .stuck
    | none => .stuck
  | .load t x => match tiOf P t with
    | some i => match ρ x with
      | .eptr cs => if i.k.agg then (if i.size ≤ cs.length then .val (.agg (cs.take i.size)) else .stuck) else
          (if i.size = 1 then match cs with | c :: _ => .val c | [] => .stuck else .stuck)
      | .box id off => if i.k.agg = false → i.size = 1 then .load id off i.size i.k.agg else .stuck
      | _ => .stuck
    | none => .stuck
  | .store t x v => match tiOf P t with
    | some i => match ρ x, (ρ v).cells? with
      | .box id off, some cs => if cs.length = i.size ∧ cs.all AV.one then .store id off cs else .stuck
      | _, _ => .stuck
    | none => .stuck
  | .fieldAddr s x f => match tiOf P s with
    | some i => match i.k with
      | .struct fs => match fs[f]? with
        | some (off, ft) => match tiOf P ft with
          | some fi => if fi.size = 0 then .stuck else match ρ x with
            | .eptr cs => .val (.eptr (cs.drop off))
            | .box id o => .val (.box id (o + off))
            | _ => .stuck
          | none => .stuck
        | none => .stuck
      | _ => .stuck
    | none => .stuck
  | .field s x f => match tiOf P s with
    | some i => match i.k with
      | .struct fs => match fs[f]? with
        | some (off, ft) => match tiOf P ft, ρ x with
          | some fi, .agg cs => if fi.k.agg then (if off + fi.size ≤ cs.length then .val (.agg ((cs.drop off).take fi.size)) else .stuck) else
              (if off < cs.length then .val (cs.getD off .undef) else .stuck)
          | _, _ => .stuck
        | none => .stuck
      | _ => .stuck
    | none => .stuck
  | .indexAddr t x ix => match tiOf P t, ρ ix with
    | some i, .int _ n => match i.k, ρ x with
      | .slice e, .list sz xs _ => match tiOf P e with
        | some ie => if 0 ≤ n ∧ n < xs.length ∧ ie.size = sz then .val (.eptr (xs.getD n.toNat [])) else .stuck
        | none => .stuck
      | .slice e, .rowp id off sz m _ => match tiOf P e with
        | some ie => if 0 ≤ n ∧ n < m ∧ ie.size = sz then .val (.box id (off + n.toNat * sz)) else .stuck
        | none => .stuck
      | .array len e, .box id off => match tiOf P e with
        | some ie => if 0 ≤ n ∧ n < len then .val (.box id (off + n.toNat * ie.size)) else .stuck
        | none => .stuck
      | .array len e, .eptr cs => match tiOf P e with
        | some ie => if 0 ≤ n ∧ n < len then .val (.eptr (cs.drop (n.toNat * ie.size))) else .stuck
        | none => .stuck
      | _, _ => .stuck
    | _, _ => .stuck
  | .index t x ix => match tiOf P t, ρ ix with
    | some i, .int _ n => match i.k, ρ x with
      | .string, .str s => if 0 ≤ n ∧ n < s.size then .val (.int .u8 ((s.data.getD n.toNat 0).toNat : Nat)) else .stuck
      | _, _ => .stuck
    | _, _ => .stuck
  | .binOp op t x y _ => avBin P op t (ρ x) (ρ y)
  | .unOp op _ x => match op, ρ x with
    | .not, .bool b => .val (.bool !b)
    | .neg, .int k n => .val (.int k (k.wrap (0 - n)))
    | _, _ => .stuck
  | .extract x j => match ρ x with
    | .tup vs => if j < vs.length then .val (vs.getD j .undef) else .stuck
    | _ => .stuck
  | .makeFunc (.func f) first captured => if first = #[] then .val (.fn f (captured.toList.map ρ)) else .stuck
  | .call c => match c.callee with
    | .value f => match ρ f with
      | .fn g caps => .call g (c.args.toList.map ρ ++ caps)
      | .yld id => .yield id (c.args.toList.map ρ)
      | _ => .stuck
    | .builtin .len => match c.args.toList.map ρ, c.argTypes.toList with
      | [.list _ xs _], [t] => match tiOf P t with
        | some i => match i.k with | .slice _ => .val (.int .i64 xs.length) | _ => .stuck
        | none => .stuck
      | [.str s], [t] => match tiOf P t with
        | some i => match i.k with | .string => .val (.int .i64 s.size) | _ => .stuck
        | none => .stuck
      | [.rowp _ _ _ m _], [t] => match tiOf P t with
        | some i => match i.k with | .slice _ => .val (.int .i64 m) | _ => .stuck
        | none => .stuck
      | [.map id], [t] => match tiOf P t with
        | some i => match i.k with | .map _ _ => .mlen id | _ => .stuck
        | none => .stuck
      | _, _ => .stuck
    | .builtin .clear => match c.args.toList.map ρ, c.argTypes.toList with
      | [.rowp id off sz n _], [t] => match tiOf P t with
        | some i => match i.k with
          | .slice e => match tiOf P e with
            | some ie => if ie.size = sz ∧ ie.zero.length = ie.size ∧ ie.zero.all AV.one then .clr id off (n * sz) else .stuck
            | none => .stuck
          | _ => .stuck
        | none => .stuck
      | _, _ => .stuck
    | .builtin .delete => match c.args.toList.map ρ, c.argTypes.toList with
      | [.map id, key], [t, _] => match tiOf P t with
        | some i => match i.k with
          | .map kt _ => match scalarK P kt with | some k => .mdel id k key | none => .stuck
          | _ => .stuck
        | none => .stuck
      | _, _ => .stuck
    | .builtin .append => match c.args.toList.map ρ, c.argTypes.toList with
      | [.list sz xs o, .list sz' ys _], [t, t'] => match tiOf P t, tiOf P t' with
        | some i, some i' => match i.k, i'.k with
          | .slice e, .slice _ => match tiOf P e with
            | some ie => if 0 < ie.size ∧ ie.zero.length = ie.size ∧ (xs = [] ∨ sz = ie.size) ∧ (ys = [] ∨ sz' = ie.size) ∧ (ys.all fun y => y.all AV.one) ∧ (xs.length + ys.length) * ie.bytes ≤ 140737488355328 ∧ xs.length + ys.length ≤ 9223372036854775807
                then .app e ie.size ie.bytes xs ys o else .stuck
            | none => .stuck
          | _, _ => .stuck
        | _, _ => .stuck
      | [.rowp id off sz n c, .list sz' ys _], [t, t'] => match tiOf P t, tiOf P t' with
        | some i, some i' => match i.k, i'.k with
          | .slice e, .slice _ => match tiOf P e with
            | some ie => if 0 < ie.size ∧ ie.zero.length = ie.size ∧ sz = ie.size ∧ (ys = [] ∨ sz' = ie.size) ∧ (ys.all fun y => y.all AV.one) ∧ (n + ys.length) * ie.bytes ≤ 140737488355328 ∧ n + ys.length ≤ 9223372036854775807
                then .appr e ie.size ie.bytes id off n c ys else .stuck
            | none => .stuck
          | _, _ => .stuck
        | _, _ => .stuck
      | _, _ => .stuck
    | _ => .stuck
  | .slice t x lo hi mx => match tiOf P t with
    | some i => match i.k, ρ x with
      | .slice e, .list sz xs o => match tiOf P e with
        | some ie =>
          let l : AV := match lo with | some a => ρ a | none => .int .i64 0
          let h : AV := match hi with | some a => ρ a | none => .int .i64 xs.length
          let mv : AV := match mx with | some m => ρ m | none => .undef
          match l, h, mx, mv with
          | .int _ l, .int _ h, none, _ => if 0 ≤ l ∧ l ≤ h ∧ h ≤ xs.length ∧ (xs = [] ∨ ie.size = sz) then .val (.list sz ((xs.take h.toNat).drop l.toNat) (if h = xs.length ∧ o = .clip then .clip else .no)) else .stuck
          | .int _ l, .int _ h, some _, .int _ m => if 0 ≤ l ∧ l ≤ h ∧ h = m ∧ h ≤ xs.length ∧ (xs = [] ∨ ie.size = sz) ∧ hi.isSome then .val (.list sz ((xs.take h.toNat).drop l.toNat) .clip) else .stuck
          | _, _, _, _ => .stuck
        | none => .stuck
      | .slice e, .rowp id off sz n c => match tiOf P e with
        | some ie =>
          let l : AV := match lo with | some a => ρ a | none => .int .i64 0
          let h : AV := match hi with | some a => ρ a | none => .int .i64 n
          let mv : AV := match mx with | some m => ρ m | none => .int .i64 c
          match l, h, mv with
          | .int _ l, .int _ h, .int _ m => if 0 ≤ l ∧ l ≤ h ∧ h ≤ m ∧ m ≤ c ∧ ie.size = sz ∧ (mx.isSome → hi.isSome) then .val (.rowp id (if m = l then off else off + l.toNat * sz) sz (h - l).toNat (m - l).toNat) else .stuck
          | _, _, _ => .stuck
        | none => .stuck
      | .string, .str s => match mx with
        | some _ => .stuck
        | none =>
          let l : AV := match lo with | some a => ρ a | none => .int .i64 0
          let h : AV := match hi with | some a => ρ a | none => .int .i64 s.size
          match l, h with
          | .int _ l, .int _ h => if 0 ≤ l ∧ l ≤ h ∧ h ≤ s.size then .val (.str (s.extract l.toNat h.toNat)) else .stuck
          | _, _ => .stuck
      | _, _ => .stuck
    | none => .stuck
  | .convert src dst x => match tiOf P src, tiOf P dst with
    | some _, some i => match i.k, ρ x with
      | .int k, .int _ n => .val (.int k (k.wrap n))
      | _, _ => .stuck
    | _, _ => .stuck
  | .makeMap t r => match tiOf P t with
    | some i => match i.k with
      | .map _ _ => match r with
        | none => .mnew
        | some x => match ρ x with | .int _ _ => .mnew | _ => .stuck
      | _ => .stuck
    | none => .stuck
  | .lookup t x ix ok => match tiOf P t with
    | some i => match i.k, ρ x with
      | .map kt vt, .map id => match scalarK P kt, zvOf P vt with
        | some k, some z => .mget id k (ρ ix) ok z
        | _, _ => .stuck
      | _, _ => .stuck
    | none => .stuck
  | .mapUpdate t m key v => match tiOf P t with
    | some i => match i.k, ρ m with
      | .map kt _, .map id => match scalarK P kt with | some k => .mset id k (ρ key) (ρ v) | none => .stuck
      | _, _ => .stuck
    | none => .stuck
  | .insert t m key v => match tiOf P t with
    | some i => match i.k, ρ m with
      | .map kt _, .map id => match scalarK P kt with | some k => .mset id k (ρ key) (ρ v) | none => .stuck
      | _, _ => .stuck
    | none => .stuck
  | .range t x => match tiOf P t with
    | some i => match i.k, ρ x with
      | .map _ _, .map id => .mrange id
      | _, _ => .stuck
    | none => .stuck
  | .next it isS => match ρ it with
    | .box id off => if isS = false ∧ off = 0 then .mnext id else .stuck
    | _ => .stuck
  | .entry it => match ρ it with
    | .box id off => if off = 0 then .mentry id else .stuck
    | _ => .stuck
  | _ => .stuck
end Go.Sh

/- Shadow logic, part E: the operations that only compute. -/
namespace Go.Sh
open Go.RowKit

def okFn (P : Program) (f : FuncId) : Prop := ∃ fn, P.funcs[f]? = some fn ∧ (fn.name == "runtime.NumGoroutine") = false ∧ fn.body.isNone = false
def dcall (P : Program) (f : FuncId) (args : List AV) (st : St) (K : AV → St → Prop) : Prop :=
  okFn P f ∧ ∀ (B : Nat) (w0 : World) (M : Mem) (w : World) (vals : Array Value), Inv B w0 M st w → RepL M args vals →
    Calls P f vals w fun e w' => ∃ x M' v st', e = .returned x ∧ M.le M' ∧ Inv B w0 M' st' w' ∧ RepV M' v x ∧ K v st'

/-- What holds behind. -/
def Post (B : Nat) (w0 : World) (M : Mem) (n : Nat) (K : Env → St → Prop) (a : Act) (w : World) : Prop :=
  ∃ M' env st, M.lem M' ∧ Inv B w0 M' st w ∧ RepE M' n env a ∧ K env st
def fen (ro : Option Nat) : Fence := { Fence.wide with round := ro }
def dwp (P : Program) (n : Nat) (c : Code) (Q : Exit → Env → St → Prop) (env : Env) (st : St) : Prop :=
  ∀ (B : Nat) (w0 : World) (M : Mem) (a : Act) (w : World), Inv B w0 M st w → RepE M n env a → c.wpIn (fen M.ro) 0 P (fun e a' w' => Post B w0 M n (Q e) a' w') a w
def putAll : Env → List (Nat × AV) → Env
  | e, [] => e
  | e, (d, v) :: r => putAll (e.put (some d) v) r
/-- How a round ends. -/
def roundQ (id n : Nat) (env0 : Env) (ps : Array Tmp) (assign body : Code) (K : AV → St → Prop) : Exit → Env → St → Prop
  | .normal, _, st => st id = some .busy ∧ K (.bool true) (st.upd id (.loop n env0 ps assign body none))
  | .ret, _, st => st id = some .busy ∧ K (.bool false) (st.upd id (.loop n env0 ps assign body (some .ret)))
  | .exit i, _, st => st id = some .busy ∧ K (.bool false) (st.upd id (.loop n env0 ps assign body (some (.exit i))))
  | .goto l, _, st => st id = some .busy ∧ K (.bool false) (st.upd id (.loop n env0 ps assign body (some (.goto l))))
  | _, _, _ => False
def onlyQ (K : Env → St → Prop) : Exit → Env → St → Prop
  | .normal => K
  | _ => fun _ _ => False
/-- A round. -/
def dround (P : Program) (id : Nat) (args : List AV) (o : Option AObj) (st : St) (K : AV → St → Prop) : Prop := match o with
  | some (.loop n env0 ps assign body none) => args.length = ps.size ∧ (ps.toList.all fun p => decide (p < n)) = true ∧
      dwp P n assign (onlyQ fun e1 s1 => dwp P n body (roundQ id n env0 ps assign body K) e1 s1) (putAll env0 (ps.toList.zip args)) (st.upd id .busy)
  | _ => False

/-- Who may append: over st0, the objects beside. -/
def Owns (st0 : St) (e : TypeId) (sz n : Nat) : Own → St → Prop
  | .no, _ => False
  | .clip, st => st = st0
  | .op id, st => st0 id = none ∧ st = st0.upd id (.spare e sz n)

def Out (P : Program) (B : Nat) (w0 : World) (M : Mem) (st : St) (w : World) (K : AV → St → Prop) : Result Next → Prop
  | .ok (.value x) w' => ∃ M' v st', M.le M' ∧ Inv B w0 M' st' w' ∧ RepV M' v x ∧ K v st'
  | .ok .skip w' => ∃ M' st', M.le M' ∧ Inv B w0 M' st' w' ∧ K .undef st'
  | .ok (.enter f vals) w' => w' = w ∧ ∃ args, RepL M args vals ∧ dcall P f args st K
  | .ok (.round l f tmps assign body) w' => w' = w ∧ RoundIn Fence.wide 0 P l f tmps assign body w fun e w' => ∃ x M' v st', e = .returned x ∧ M.le M' ∧ Inv B w0 M' st' w' ∧ RepV M' v x ∧ K v st'
  | _ => False

def resK (P : Program) (r : ORes) (st : St) (K : AV → St → Prop) : Prop :=
  match r with
  | .val v => K v st
  | .load id off n ag => match st id with
    | some (.cells _ cs) => off + n ≤ cs.length ∧ K (if ag then .agg ((cs.drop off).take n) else cs.getD off .undef) st
    | _ => False
  | .store id off vs => match st id with
    | some (.cells t cs) => off + vs.length ≤ cs.length ∧ K .undef (st.upd id (.cells t (spliceL cs off vs)))
    | _ => False
  | .new t cs => ∀ id, st id = none → K (.box id 0) (st.upd id (.cells t cs))
  | .lit sz xs => K (.list sz xs .clip) st
  | .app e sz _ xs ys o => (∃ st0, Owns st0 e sz xs.length o st ∧ ∀ o' st', Owns st0 e sz (xs.length + ys.length) o' st' → K (.list sz (xs ++ ys) o') st') ∨
      (xs = [] ∧ o = .clip ∧ (ys = [] → K (.list sz [] .clip) st) ∧ (ys ≠ [] → ∀ id c, st id = none → ys.length ≤ c → c ≤ maxLen → K (.rowp id 0 sz ys.length c) (st.upd id (.cells e (ys.flatten ++ List.replicate ((c - ys.length) * sz) .undef)))))
  | .appr e sz _ id off n c ys => if c = 0 then n = 0 ∧ (ys = [] → K (.rowp id off sz 0 0) st) ∧ (ys ≠ [] → ∀ id' c', st id' = none → ys.length ≤ c' → c' ≤ maxLen → K (.rowp id' 0 sz ys.length c') (st.upd id' (.cells e (ys.flatten ++ List.replicate ((c' - ys.length) * sz) .undef)))) else
    match st id with
    | some (.cells t cs) => off + c * sz ≤ cs.length ∧ n ≤ c ∧ c ≤ maxLen ∧ (n + ys.length ≤ c → K (.rowp id off sz (n + ys.length) c) (st.upd id (.cells t (spliceL cs (off + n * sz) ys.flatten)))) ∧
      (c < n + ys.length → ∀ id' c', st id' = none → n + ys.length ≤ c' → c' ≤ maxLen → K (.rowp id' 0 sz (n + ys.length) c') (st.upd id' (.cells e ((cs.drop off).take (n * sz) ++ ys.flatten ++ List.replicate ((c' - (n + ys.length)) * sz) .undef))))
    | _ => False
  | .call f args => dcall P f args st K
  | .yield id args => dround P id args (st id) st K
  | .mnew => ∀ id, st id = none → K (.map id) (st.upd id (.map [] 0))
  | .mget id k key ok z => match st id with
    | some (.map es _) => match mfind k key es 0 with
      | some (some (_, v)) => K (if ok then .tup [v, .bool true] else v) st
      | some none => K (if ok then .tup [z, .bool false] else z) st
      | none => False
    | _ => False
  | .mset id k key v => match st id with
    | some (.map es clock) => match mfind k key es 0 with
      | some (some (i, _)) => K .undef (st.upd id (.map (msetL key v es i) clock))
      | some none => K .undef (st.upd id (.map (es ++ [⟨key, v, clock⟩]) (clock + 1)))
      | none => False
    | _ => False
  | .mdel id k key => match st id with
    | some (.map es clock) => match mfind k key es 0 with
      | some (some (i, _)) => K (.tup []) (st.upd id (.map (es.eraseIdx i) clock))
      | some none => K (.tup []) st
      | none => False
    | _ => False
  | .mlen id => match st id with
    | some (.map es _) => K (.int .i64 es.length) st
    | _ => False
  | .mrange id => match st id with
    | some (.map _ clock) => ∀ id', st id' = none → K (.box id' 0) (st.upd id' (.iter (some id) clock [] clock))
    | _ => False
  | .mnext id => match st id with
    | some (.iter (some m) since seen last) => match st m with
      | some (.map es clock) => (∀ e ∈ es, e.born < since) ∧ since ≤ last ∧ (leftA es seen = [] → K (.tup [.bool false]) st) ∧ ∀ e ∈ leftA es seen, K (.tup [.bool true, e.key, e.val]) (st.upd id (.iter (some m) since (seen ++ [e.born]) clock))
      | _ => False
    | _ => False
  | .mentry id => match st id with
    | some (.iter (some m) _ seen last) => match st m with
      | some (.map es clock) => clock = last ∧ (es.map (·.born)).Nodup ∧ ∃ e seen', e ∈ es ∧ seen = seen' ++ [e.born] ∧ K (.tup [e.key, e.val]) st
      | _ => False
    | _ => False
  | .clr id off m => (m = 0 → K (.tup []) st) ∧ (m ≠ 0 → match st id with
    | some (.cells t cs) => off + m ≤ cs.length ∧ K (.tup []) (st.upd id (.cells t (spliceL cs off (List.replicate m .undef))))
    | _ => False)
  | .stuck => False

theorem resK_val {P : Program} {st : St} {K : AV → St → Prop} (v : AV) : resK P (.val v) st K = K v st := rfl
theorem resK_stuck {P : Program} {st : St} {K : AV → St → Prop} : resK P .stuck st K = False := rfl
theorem resK_load {P : Program} {st : St} {K : AV → St → Prop} {id off n : Nat} {ag : Bool} (h : resK P (.load id off n ag) st K) :
    ∃ t cs, st id = some (.cells t cs) ∧ off + n ≤ cs.length ∧ K (if ag then .agg ((cs.drop off).take n) else cs.getD off .undef) st := by
  unfold resK at h
  split at h
  all_goals first | (rename_i e; cases e; done) | skip
  rename_i e
  injection e with e1 e2 e3 e4
  subst e1 e2 e3 e4
  split at h
  · rename_i t cs hs; exact ⟨t, cs, hs, h⟩
  · exact h.elim
theorem resK_store {P : Program} {st : St} {K : AV → St → Prop} {id off : Nat} {vs : List AV} (h : resK P (.store id off vs) st K) :
    ∃ t cs, st id = some (.cells t cs) ∧ off + vs.length ≤ cs.length ∧ K .undef (st.upd id (.cells t (spliceL cs off vs))) := by
  unfold resK at h
  split at h
  all_goals first | (rename_i e; cases e; done) | skip
  rename_i e
  injection e with e1 e2 e3
  subst e1 e2 e3
  split at h
  · rename_i t cs hs; exact ⟨t, cs, hs, h⟩
  · exact h.elim
section
variable {P : Program} {B : Nat} {w0 w : World} {M : Mem} {st : St} {K : AV → St → Prop}

theorem out_val (hI : Inv B w0 M st w) {s : Sem Value} {x : Value} {v : AV} (hs : s.run P w = .ok x w) (hv : RepV M v x) (hK : K v st) :
    Out P B w0 M st w K ((do pure (.value (← s)) : Sem Next).run P w) := by
  simp only [Sem.run_bind, hs, Result.andThen_ok, Sem.run_pure]
  exact ⟨M, v, st, .refl M, hI, hv, hK⟩

theorem beq_bytes (a b : ByteArray) : (a.toList == b.toList) = decide (a = b) := by
  rw [ByteArray.toList_eq, ByteArray.toList_eq, Bool.eq_iff_iff]
  simp only [beq_iff_eq, decide_eq_true_eq]
  constructor
  · intro h
    obtain ⟨⟨a⟩⟩ := a
    obtain ⟨⟨b⟩⟩ := b
    simp at h
    rw [h]
  · intro h; rw [h]

theorem run_isAgg_scalar {t : TypeId} {k : SK} (hk : scalarK P t = some k) : (isAgg t).run P w = .ok false w := by
  unfold scalarK at hk
  unfold isAgg
  cases hu : P.underlying t with
  | none => simp [hu] at hk
  | some du => rw [Sem.run_bind, run_underlying hu]; cases du <;> simp [hu] at hk <;> rfl
theorem run_equal_scalar {d : Nat} {t : TypeId} {k : SK} (hk : scalarK P t = some k) {a b : AV} {x y : Value} (ha : RepV M a x) (hb : RepV M b y) {r : Bool} (e : avEq1 k a b = some r) :
    (Op.equalIn (d + 1) t x y).run P w = .ok r w := by
  unfold scalarK at hk
  cases hu : P.underlying t with
  | none => simp [hu] at hk
  | some du =>
    cases du <;> simp [hu] at hk <;> subst hk <;> cases ha <;> cases hb <;> simp [avEq1] at e
    · subst e; simp [Op.equalIn, run_underlying hu]; rfl
    · obtain ⟨rfl, rfl⟩ := e; simp [Op.equalIn, run_underlying hu]; rfl
    · subst e; simp [Op.equalIn, run_underlying hu]; rw [beq_toListBytes, beq_bytes]
theorem run_eqFields {d : Nat} (cs ds : Array Value) (xs ys : List AV) (hx : RepL M xs cs) (hy : RepL M ys ds) : ∀ (fs : List Field) (j : Nat) (r : Bool) (ks : List SK),
    kindsOf P fs j = some ks → avEqs ks (xs.drop j) (ys.drop j) = some r → (Op.eqFields (d + 1) cs ds fs).run P w = .ok r w := by
  intro fs
  induction fs with
  | nil =>
    intro j r ks hk hr
    simp only [kindsOf, Option.some.injEq] at hk
    subst hk
    cases hd : xs.drop j with
    | nil => cases hd' : ys.drop j with
      | nil => rw [hd, hd'] at hr; simp [avEqs] at hr; subst hr; rfl
      | cons y ys => rw [hd, hd'] at hr; simp [avEqs] at hr
    | cons x xs => rw [hd] at hr; simp [avEqs] at hr
  | cons f fs ih =>
    intro j r ks ha hr
    unfold kindsOf at ha
    split at ha
    · cases ha
    · rename_i hc
      have hn : f.name ≠ "_" := fun h => hc (.inl h)
      have ho : f.offset = j := Classical.byContradiction fun h => hc (.inr h)
      cases hk : scalarK P f.type with
      | none => simp [hk] at ha
      | some k =>
        cases hks : kindsOf P fs (j + 1) with
        | none => simp [hk, hks] at ha
        | some ks' =>
          simp [hk, hks] at ha
          subst ha
          cases hdx : xs.drop j with
          | nil => rw [hdx] at hr; simp [avEqs] at hr
          | cons x xs' =>
            cases hdy : ys.drop j with
            | nil => rw [hdx, hdy] at hr; simp [avEqs] at hr
            | cons y ys' =>
              rw [hdx, hdy] at hr
              have gx : xs[j]? = some x := by have := congrArg (·[0]?) hdx; simpa using this
              have gy : ys[j]? = some y := by have := congrArg (·[0]?) hdy; simpa using this
              have tx : xs.drop (j + 1) = xs' := by rw [← List.drop_drop, hdx]; rfl
              have ty : ys.drop (j + 1) = ys' := by rw [← List.drop_drop, hdy]; rfl
              simp only [avEqs] at hr
              cases e1 : avEq1 k x y with
              | none => simp [e1] at hr
              | some b =>
                cases e2 : avEqs ks' xs' ys' with
                | none => simp [e1, e2] at hr
                | some b' =>
                  simp [e1, e2] at hr
                  subst hr
                  have hx1 := hx.2 j
                  have hy1 := hy.2 j
                  rw [List.getD_eq_getElem?_getD, gx, Option.getD_some, Array.getD_eq_getD_getElem?] at hx1
                  rw [List.getD_eq_getElem?_getD, gy, Option.getD_some, Array.getD_eq_getD_getElem?] at hy1
                  have hcj : j < cs.size := by rw [hx.1]; exact (List.getElem?_eq_some_iff.1 gx).1
                  have hdj : j < ds.size := by rw [hy.1]; exact (List.getElem?_eq_some_iff.1 gy).1
                  rw [Array.getElem?_eq_getElem hcj, Option.getD_some] at hx1
                  rw [Array.getElem?_eq_getElem hdj, Option.getD_some] at hy1
                  have hagg := run_isAgg_scalar (w := w) hk
                  have hp1 : (part f.type cs f.offset).run P w = .ok cs[j] w := by
                    simp [part, hagg, ho, hcj]
                  have hp2 : (part f.type ds f.offset).run P w = .ok ds[j] w := by
                    simp [part, hagg, ho, hdj]
                  have heq := run_equal_scalar (w := w) (d := d) hk hx1 hy1 e1
                  simp only [Op.eqFields, hn, ne_eq, not_false_eq_true, if_true, Sem.run_bind, hp1, hp2, heq, Result.andThen_ok, Sem.run_ite]
                  rw [ih (j + 1) b' ks' hks (by rw [tx, ty]; exact e2)]
                  cases b <;> rfl
end
end Go.Sh

/- Shadow logic, part F: one operation, sound. -/
namespace Go.Sh
open Go.RowKit
section
variable {P : Program} {B n : Nat} {w0 w : World} {M : Mem} {st : St} {K : AV → St → Prop} {env : Env} {a : Act}

theorem run_bool_eq {t : TypeId} (hu : P.underlying t = some .bool) (p q : Operand) {a b : Bool} :
    ((do eqGuard .eql t p q (.bool a) (.bool b); binOp .eql t (.bool a) (.bool b)) : Sem Value).run P w = .ok (.bool (decide (a = b))) w := by
  have h : (Op.equal t (.bool a) (.bool b)).run P w = .ok (a == b) w := run_equalIn_bool' w 9999 t a b hu
  have e : binOp .eql t (.bool a) (.bool b) = (do pure (.bool (← Op.equal t (.bool a) (.bool b)))) := rfl
  rw [e]
  simp only [eqGuard_at_bool, Sem.run_bind, Sem.run_pure, Result.andThen_ok, h]
  cases a <;> cases b <;> rfl
theorem run_bool_neq {t : TypeId} (hu : P.underlying t = some .bool) (p q : Operand) {a b : Bool} :
    ((do eqGuard .neq t p q (.bool a) (.bool b); binOp .neq t (.bool a) (.bool b)) : Sem Value).run P w = .ok (.bool (!decide (a = b))) w := by
  have h : (Op.equal t (.bool a) (.bool b)).run P w = .ok (a == b) w := run_equalIn_bool' w 9999 t a b hu
  have e : binOp .neq t (.bool a) (.bool b) = (do pure (.bool (!(← Op.equal t (.bool a) (.bool b))))) := rfl
  rw [e]
  simp only [eqGuard_at_bool, Sem.run_bind, Sem.run_pure, Result.andThen_ok, h]
  cases a <;> cases b <;> rfl

theorem sound_bin {op : BinOp} {t : TypeId} {x y : AV} {u v : Value} (hx : RepV M x u) (hy : RepV M y v) (p q : Operand)
    (h : resK P (avBin P op t x y) st K) : ∃ r z, ((do eqGuard op t p q u v; binOp op t u v) : Sem Value).run P w = .ok r w ∧ RepV M z r ∧ K z st := by
  unfold avBin at h
  split at h
  · rename_i k a k' b
    cases hx; cases hy
    split at h
    · rename_i e; subst e
      cases op <;> simp only [resK] at h
      case add => exact ⟨_, _, by simp [eqGuard, binOp, Op.intArith] <;> rfl, .int _ _, h⟩
      case sub => exact ⟨_, _, by simp [eqGuard, binOp, Op.intArith] <;> rfl, .int _ _, h⟩
      case mul => exact ⟨_, _, by simp [eqGuard, binOp, Op.intArith] <;> rfl, .int _ _, h⟩
      case eql => exact ⟨_, _, by simp [eqGuard, binOp, Op.intCmp] <;> rfl, .bool _, h⟩
      case neq => exact ⟨_, _, by simp [eqGuard, binOp, Op.intCmp] <;> rfl, .bool _, h⟩
      case lss => exact ⟨_, _, by simp [eqGuard, binOp, Op.intCmp] <;> rfl, .bool _, h⟩
      case leq => exact ⟨_, _, by simp [eqGuard, binOp, Op.intCmp] <;> rfl, .bool _, h⟩
      case gtr => exact ⟨_, _, by simp [eqGuard, binOp, Op.intCmp] <;> rfl, .bool _, h⟩
      case geq => exact ⟨_, _, by simp [eqGuard, binOp, Op.intCmp] <;> rfl, .bool _, h⟩
      case rem =>
        by_cases hb : b = 0
        · simp only [hb, if_true] at h
        · simp only [hb, if_false] at h
          exact ⟨_, _, by simp [eqGuard, binOp, Op.intDiv, hb] <;> rfl, .int _ _, h⟩
      case quo =>
        by_cases hb : b = 0
        · simp only [hb, if_true] at h
        · simp only [hb, if_false] at h
          exact ⟨_, _, by simp [eqGuard, binOp, Op.intDiv, hb] <;> rfl, .int _ _, h⟩
    · exact h.elim
  · rename_i a b
    cases hx; cases hy
    cases op <;> simp only [resK] at h
    case eql =>
      cases hu : P.underlying t with
      | none => simp [hu] at h
      | some d => cases d <;> simp [hu] at h; exact ⟨_, _, run_bool_eq hu _ _, .bool _, h⟩
    case neq =>
      cases hu : P.underlying t with
      | none => simp [hu] at h
      | some d => cases d <;> simp [hu] at h; exact ⟨_, _, run_bool_neq hu _ _, .bool _, h⟩
  · rename_i s s'
    cases hx; cases hy
    cases op <;> simp only [resK] at h
    case add =>
      by_cases hb : s.size + s'.size ≤ 9223372036854775807
      · simp only [hb, if_true] at h
        exact ⟨_, _, by simp [eqGuard, binOp, Op.stringOp, show ¬ ((9223372036854775807 : Int) < (s.size : Int) + (s'.size : Int)) by omega] <;> rfl, .str _, h⟩
      · simp only [hb, if_false] at h
    case eql => exact ⟨_, _, by simp [eqGuard, binOp, Op.stringOp] <;> rfl, by rw [beq_bytes]; exact .bool _, h⟩
    case neq => exact ⟨_, _, by simp [eqGuard, binOp, Op.stringOp] <;> rfl, by rw [beq_bytes]; exact .bool _, h⟩
    case lss => exact ⟨_, _, by simp [eqGuard, binOp, Op.stringOp] <;> rfl, .bool _, h⟩
  · rename_i xs ys
    cases hx; cases hy
    rename_i cs hcs hcr ds hds hdr
    cases he : eqFlat P t with
    | none => simp [he, resK] at h
    | some ks =>
      simp only [he] at h
      unfold eqFlat at he
      cases hu : P.underlying t with
      | none => simp [hu] at he
      | some d =>
        cases d <;> simp [hu] at he
        rename_i fs
        obtain ⟨⟨hs, hg⟩, hk⟩ := he
        have hfu : P.underlying t = some (.struct (P.fieldsOf t)) := by simp [Program.fieldsOf, hu]
        have hff : P.fieldsOf t = fs := by simp [Program.fieldsOf, hu]
        cases hr : avEqs ks xs ys with
        | none => cases op <;> simp [hr, resK] at h
        | some r =>
          have hrun := run_eqFields (P := P) (w := w) (d := 9998) cs ds xs ys ⟨hcs, hcr⟩ ⟨hds, hdr⟩ fs.toList 0 r ks hk (by simpa using hr)
          have heq : (Op.equalIn 10000 t (.agg cs) (.agg ds)).run P w = .ok r w := by
            rw [show (10000 : Nat) = 9999 + 1 from rfl, run_equalIn_struct w 9999 t cs ds hfu hs, hff]
            exact hrun
          cases op <;> simp only [hr, resK] at h
          case eql => exact ⟨_, _, by simp [run_eqGuard_agg, hg, run_eql_struct, heq] <;> rfl, .bool _, h⟩
          case neq => exact ⟨_, _, by simp [run_eqGuard_agg, hg, run_neq_struct, heq] <;> rfl, .bool _, h⟩
  · exact h.elim
end
end Go.Sh
