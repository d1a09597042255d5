/- Shadow logic, part A: abstract values, memory that doesn't change, objects by number. -/
import Derived.Calls
import Derived.Below
import Derived.RangeFuncNested
import Derived.Sort.LoopGhostIn
import Derived.KernelRfl
namespace Go.Sh
open Go.RowKit

/-- Who may append to a row in place: nobody who is told; whoever has it copies (its capacity is its length); the owner of object id. -/
inductive Own where
  | no | clip | op (id : Nat)
  deriving DecidableEq

inductive AV where
  | undef
  | int (k : IntKind) (n : Int)
  | bool (b : Bool)
  | str (s : ByteArray)
  | nilp
  | box (id off : Nat)
  | eptr (cs : List AV)
  | list (sz : Nat) (xs : List (List AV)) (o : Own)
  /-- A row that may change: object id's cells from off on. -/
  | rowp (id off sz n c : Nat)
  | agg (cs : List AV)
  | tup (vs : List AV)
  | map (id : Nat)
  | nilmap
  | fn (f : FuncId) (caps : List AV)
  | nilfn
  | yld (id : Nat)
  | iface (t : TypeId) (v : AV)
  | nili
  deriving Inhabited

/-- An entry of a map. -/
structure MEnt where
  key : AV
  val : AV
  born : Nat
  deriving Inhabited

structure Mem where
  F : Addr → Option Value
  pos : Nat → Nat
  cap : Nat → Nat
  next : Nat
  /-- What lies beside: blocks that hold no cells. -/
  O : Nat → Option Obj
  /-- The calls that wait in the activation. -/
  ds : List Deferred
  /-- The round in which it stands. -/
  ro : Option Nat

structure Mem.up (M M' : Mem) : Prop where
  F : ∀ a v, M.F a = some v → M'.F a = some v
  next : M.next ≤ M'.next
  pos : ∀ id, id < M.next → M'.pos id = M.pos id
  cap : ∀ id, id < M.next → M'.cap id = M.cap id
def emptyBlock : Obj := .deferred (some [])
def markOf (D : Nat) : Deferred := { target := .collected D, args := #[] }
/-- Across code: loops over functions may have left their marks. -/
structure Mem.lem (M M' : Mem) : Prop extends Mem.up M M' where
  O : ∀ k o, M.O k = some o → M'.O k = some o
  ds : ∃ l : List Nat, M'.ds = l.map markOf ++ M.ds ∧ l.Nodup ∧ ∀ D ∈ l, M'.O D = some emptyBlock ∧ M.O D = none
  ro : M'.ro = M.ro
structure Mem.le (M M' : Mem) : Prop extends Mem.up M M' where
  O : ∀ k o, M.O k = some o → M'.O k = some o
  ds : M'.ds = M.ds
  ro : M'.ro = M.ro

theorem Mem.le.refl (M : Mem) : M.le M := ⟨⟨fun _ _ h => h, Nat.le_refl _, fun _ _ => rfl, fun _ _ => rfl⟩, fun _ _ h => h, rfl, rfl⟩
theorem Mem.le.trans {M M' M'' : Mem} (h : M.le M') (k : M'.le M'') : M.le M'' :=
  ⟨⟨fun a v e => k.F a v (h.F a v e), Nat.le_trans h.next k.next, fun id hi => (k.pos id (Nat.lt_of_lt_of_le hi h.next)).trans (h.pos id hi),
    fun id hi => (k.cap id (Nat.lt_of_lt_of_le hi h.next)).trans (h.cap id hi)⟩, fun a v e => k.O a v (h.O a v e), k.ds.trans h.ds, k.ro.trans h.ro⟩

theorem Mem.le.lem {M M' : Mem} (h : M.le M') : M.lem M' := ⟨h.toup, h.O, ⟨[], by simp [h.ds], List.nodup_nil, fun _ h => by cases h⟩, h.ro⟩
theorem Mem.lem.refl (M : Mem) : M.lem M := (Mem.le.refl M).lem
theorem Mem.up.trans {M M' M'' : Mem} (h : M.up M') (k : M'.up M'') : M.up M'' :=
  ⟨fun a v e => k.F a v (h.F a v e), Nat.le_trans h.next k.next, fun id hi => (k.pos id (Nat.lt_of_lt_of_le hi h.next)).trans (h.pos id hi),
    fun id hi => (k.cap id (Nat.lt_of_lt_of_le hi h.next)).trans (h.cap id hi)⟩
theorem Mem.lem.trans {M M' M'' : Mem} (h : M.lem M') (k : M'.lem M'') : M.lem M'' := by
  refine ⟨h.toup.trans k.toup, fun a v e => k.O a v (h.O a v e), ?_, k.ro.trans h.ro⟩
  obtain ⟨l1, h1, h2, h3⟩ := h.ds
  obtain ⟨l2, k1, k2, k3⟩ := k.ds
  refine ⟨l2 ++ l1, by rw [k1, h1, List.map_append, List.append_assoc], ?_, fun D hD => ?_⟩
  · rw [List.nodup_append]
    refine ⟨k2, h2, fun a ha b hb e => ?_⟩
    subst e
    have e1 := (k3 a ha).2
    have e2 := (h3 a hb).1
    rw [e1] at e2; cases e2
  · rcases List.mem_append.1 hD with hD | hD
    · refine ⟨(k3 D hD).1, ?_⟩
      cases ho : M.O D with
      | none => rfl
      | some o => have := h.O D o ho; rw [(k3 D hD).2] at this; cases this
    · exact ⟨k.O _ _ (h3 D hD).1, (h3 D hD).2⟩

def OwnOk (M : Mem) (a : Addr) (n cap : Nat) : Own → Prop
  | .no => True
  | .clip => cap = n
  | .op id => a = ⟨M.pos id, 0, none⟩ ∧ cap = M.cap id ∧ id < M.next

inductive RepV (M : Mem) : AV → Value → Prop
  | undef (x) : RepV M .undef x
  | int (k n) : RepV M (.int k n) (.int k n)
  | bool (b) : RepV M (.bool b) (.bool b)
  | str (s) : RepV M (.str s) (.string s)
  | nilp : RepV M .nilp (.pointer none)
  | box (id off) : id < M.next → RepV M (.box id off) (.pointer (some ⟨M.pos id, off, none⟩))
  | eptr (cs a) (g : Nat → Value) : (∀ j, j < cs.length → M.F (a.add j) = some (g j)) → (∀ j, RepV M (cs.getD j .undef) (g j)) → RepV M (.eptr cs) (.pointer (some a))
  | nils (sz o) : (∀ id, o ≠ .op id) → RepV M (.list sz [] o) (.slice none 0 0)
  | list (sz xs o a cap) (g : Nat → Nat → Value) : (∀ i j, i < xs.length → j < sz → M.F (a.add (i * sz + j)) = some (g i j)) →
      (∀ i j, RepV M ((xs.getD i []).getD j .undef) (g i j)) → (∀ i, i < xs.length → (xs.getD i []).length = sz) → xs.length ≤ cap → cap ≤ maxLen →
      OwnOk M a xs.length cap o → RepV M (.list sz xs o) (.slice (some a) xs.length cap)
  | rowp (id off sz n c) : id < M.next → n ≤ c → c ≤ maxLen → RepV M (.rowp id off sz n c) (.slice (some ⟨M.pos id, off, none⟩) n c)
  /-- A row without room. -/
  | rowp0 (id off sz b) : RepV M (.rowp id off sz 0 0) (.slice b 0 0)
  | agg (cs) (vs : Array Value) : vs.size = cs.length → (∀ j, RepV M (cs.getD j .undef) (vs.getD j Go.undef)) → RepV M (.agg cs) (.agg vs)
  | tup (cs) (vs : Array Value) : vs.size = cs.length → (∀ j, RepV M (cs.getD j .undef) (vs.getD j Go.undef)) → RepV M (.tup cs) (.tuple vs)
  | map (id) : id < M.next → RepV M (.map id) (.map (some (M.pos id)))
  | nilmap : RepV M .nilmap (.map none)
  | fn (f caps) (vs : Array Value) : vs.size = caps.length → (∀ j, RepV M (caps.getD j .undef) (vs.getD j Go.undef)) → RepV M (.fn f caps) (.func (.func f) #[] vs)
  | nilfn : RepV M .nilfn .nilFunc
  | yld (id) : id < M.next → RepV M (.yld id) (.func (.yield (M.pos id)) #[] #[])
  | iface (t v x) : RepV M v x → RepV M (.iface t v) (.iface t x)
  | nili : RepV M .nili .nilIface

theorem OwnOk.mono' {M M' : Mem} (h : M.up M') {a : Addr} {n cap : Nat} {o : Own} (k : OwnOk M a n cap o) : OwnOk M' a n cap o := by
  cases o with
  | no => trivial
  | clip => exact k
  | op id =>
    obtain ⟨h1, h2, h3⟩ := k
    exact ⟨by rw [h.pos id h3]; exact h1, by rw [h.cap id h3]; exact h2, Nat.lt_of_lt_of_le h3 h.next⟩

theorem RepV.mono' {M M' : Mem} (h : M.up M') {v : AV} {x : Value} (k : RepV M v x) : RepV M' v x := by
  induction k with
  | undef x => exact .undef x
  | int k n => exact .int k n
  | bool b => exact .bool b
  | str s => exact .str s
  | nilp => exact .nilp
  | box id off hi => rw [← h.pos id hi]; exact .box id off (Nat.lt_of_lt_of_le hi h.next)
  | eptr cs a g hF _ ih => exact .eptr cs a g (fun j hj => h.F _ _ (hF j hj)) ih
  | nils sz o ho => exact .nils sz o ho
  | list sz xs o a cap g hF _ hl hc hm ho ih => exact .list sz xs o a cap g (fun i j hi hj => h.F _ _ (hF i j hi hj)) ih hl hc hm (ho.mono' h)
  | rowp id off sz n c hi h1 h2 => rw [← h.pos id hi]; exact .rowp id off sz n c (Nat.lt_of_lt_of_le hi h.next) h1 h2
  | rowp0 id off sz b => exact .rowp0 id off sz b
  | agg cs vs hs _ ih => exact .agg cs vs hs ih
  | tup cs vs hs _ ih => exact .tup cs vs hs ih
  | map id hi => rw [← h.pos id hi]; exact .map id (Nat.lt_of_lt_of_le hi h.next)
  | nilmap => exact .nilmap
  | fn f caps vs hs _ ih => exact .fn f caps vs hs ih
  | nilfn => exact .nilfn
  | yld id hi => rw [← h.pos id hi]; exact .yld id (Nat.lt_of_lt_of_le hi h.next)
  | iface t v x _ ih => exact .iface t v x ih
  | nili => exact .nili

theorem RepV.mono {M M' : Mem} (h : M.le M') {v : AV} {x : Value} (k : RepV M v x) : RepV M' v x := k.mono' h.toup
/-- Objects that may change. -/
inductive AObj where
  | cells (t : TypeId) (cs : List AV)
  | spare (t : TypeId) (sz n : Nat)
  | map (es : List MEnt) (clock : Nat)
  /-- A range over a map. -/
  | iter (m : Option Nat) (since : Nat) (seen : List Nat) (last : Nat)
  /-- A loop over a function: its function's temporaries, what is assigned, its body, how a round has left it. -/
  | loop (n : Nat) (env : Nat → AV) (ps : Array Tmp) (assign body : Code) (left : Option Code)

abbrev St := Nat → Option AObj
def St.upd (st : St) (id : Nat) (o : AObj) : St := fun i => if i = id then some o else st i
def St.del (st : St) (id : Nat) : St := fun i => if i = id then none else st i

def ObjOk (M : Mem) (w : World) (b cap : Nat) : AObj → Prop
  | .cells t cs => ∃ arr : Array Value, w.heap[b]? = some (.cells arr t (0, 0)) ∧ arr.size = cs.length ∧ (∀ j, RepV M (cs.getD j .undef) (arr.getD j Go.undef)) ∧ ∀ a : Addr, a.block = b → M.F a = none
  | .spare t sz n => ∃ arr : Array Value, w.heap[b]? = some (.cells arr t (0, 0)) ∧ arr.size = cap * sz ∧ n ≤ cap ∧ cap ≤ maxLen ∧ ∀ a : Addr, a.block = b → n * sz ≤ a.off → M.F a = none
  | .map es clock => M.O b = none ∧ ∃ arr : Array MapEntry, w.heap[b]? = some (.map arr clock) ∧ arr.size = es.length ∧ ∀ (j : Nat) (e : MEnt) (x : MapEntry), es[j]? = some e → arr[j]? = some x → RepV M e.key x.key ∧ RepV M e.val x.val ∧ x.born = e.born
  | .iter m since seen last => M.O b = none ∧ w.heap[b]? = some (.mapIter (m.map M.pos) since seen.toArray last) ∧ ∀ i, m = some i → i < M.next
  | .loop n env ps assign body left => ∃ fn tmps dd, w.heap[b]? = some (.loop { state := if left.isNone then .ready else .done, pending := left, fn, tmps, params := ps, assign, body, defers := dd }) ∧
      tmps.size = n ∧ (∀ d, RepV M (env d) (tmps.getD d Go.undef)) ∧ M.O b = none

structure Inv (B : Nat) (w0 : World) (M : Mem) (st : St) (w : World) : Prop where
  below : Below B w0 w
  size : B ≤ w.heap.size
  mem : ∀ a v, M.F a = some v → w.cell? a = some v
  dom : ∀ id o, st id = some o → id < M.next
  inj : ∀ i j oi oj, st i = some oi → st j = some oj → M.pos i = M.pos j → i = j
  obj : ∀ id o, st id = some o → B ≤ M.pos id ∧ ObjOk M w (M.pos id) (M.cap id) o
  oth : ∀ k o, M.O k = some o → w.heap[k]? = some o ∧ o.isCells = false ∧ B ≤ k
  rnd : ∀ l, M.ro = some l → ∃ r, M.O l = some (.loop r)

/-- Fewer objects are told of. -/
def St.le (st st' : St) : Prop := ∀ id o, st id = some o → st' id = some o
theorem St.le.refl (st : St) : St.le st st := fun _ _ h => h
theorem Inv.weaken {B : Nat} {w0 w : World} {M : Mem} {st st' : St} (h : Inv B w0 M st' w) (k : St.le st st') : Inv B w0 M st w :=
  ⟨h.below, h.size, h.mem, fun id o e => h.dom id o (k id o e), fun i j oi oj e e' => h.inj i j oi oj (k _ _ e) (k _ _ e'), fun id o e => h.obj id o (k id o e), h.oth, h.rnd⟩

abbrev Env := Nat → AV
def Env.put (e : Env) (d : Option Nat) (v : AV) : Env := match d with | some d => fun i => if i = d then v else e i | none => e
def Env.ofList : List (Nat × AV) → Env
  | [] => fun _ => .undef
  | (d, v) :: r => fun i => if i = d then v else Env.ofList r i

def zAV : Value → AV
  | .int k n => .int k n
  | .bool b => .bool b
  | .string s => .str s
  | .pointer none => .nilp
  | .slice none 0 0 => .list 0 [] .clip
  | .map none => .nilmap
  | .nilFunc => .nilfn
  | .nilIface => .nili
  | _ => .undef
theorem zAV_rep (M : Mem) (v : Value) : RepV M (zAV v) v := by
  unfold zAV
  split
  all_goals first | exact .int _ _ | exact .bool _ | exact .str _ | exact .nilp | exact .nils _ _ (fun _ h => by cases h) | exact .nilmap | exact .nilfn | exact .nili | exact .undef _

def Env.op (e : Env) : Operand → AV
  | .tmp t => e t
  | .const v => zAV v
  | .global _ => .undef
  | .func f => .fn f []

structure RepE (M : Mem) (n : Nat) (env : Env) (a : Act) : Prop where
  size : a.tmps.size = n
  defers : a.defers = M.ds
  slot : ∀ d, RepV M (env d) (a.tmps.getD d Go.undef)

theorem RepE.mono {M M' : Mem} (h : M.le M') {n : Nat} {env : Env} {a : Act} (k : RepE M n env a) : RepE M' n env a :=
  ⟨k.size, k.defers.trans h.ds.symm, fun d => (k.slot d).mono h⟩

theorem RepE.op {M : Mem} {n : Nat} {env : Env} {a : Act} (k : RepE M n env a) (x : Operand) : RepV M (env.op x) (a.eval x) := by
  cases x with
  | tmp t => exact k.slot t
  | const v => exact zAV_rep M v
  | global g => exact .undef _
  | func f => exact .fn f [] #[] rfl (fun j => by simpa using RepV.undef _)

theorem RepE.put {M : Mem} {n : Nat} {env : Env} {a : Act} (k : RepE M n env a) (d : Option Nat) (hd : ∀ i, d = some i → i < n) {v : AV} {x : Value} (h : RepV M v x) :
    RepE M n (env.put d v) (a.put d x) := by
  cases d with
  | none => exact k
  | some d =>
    refine ⟨by simp [Act.put, k.size], k.defers, fun i => ?_⟩
    have hdn := hd d rfl
    show RepV M (if i = d then v else env i) ((a.tmps.setIfInBounds d x).getD i Go.undef)
    by_cases hi : i = d
    · subst hi
      rw [if_pos rfl]
      have : (a.tmps.setIfInBounds i x).getD i Go.undef = x := by
        rw [Array.getD_eq_getD_getElem?]
        simp [k.size, hdn]
      rw [this]; exact h
    · rw [if_neg hi]
      have : (a.tmps.setIfInBounds d x).getD i Go.undef = a.tmps.getD i Go.undef := by
        rw [Array.getD_eq_getD_getElem?, Array.getD_eq_getD_getElem?]
        simp [Ne.symm hi]
      rw [this]; exact k.slot i

/-- A less told environment. -/
def Env.le (e e' : Env) : Prop := ∀ d, e d = .undef ∨ e d = e' d
theorem RepE.weaken {M : Mem} {n : Nat} {e e' : Env} {a : Act} (k : RepE M n e' a) (h : Env.le e e') : RepE M n e a :=
  ⟨k.size, k.defers, fun d => by rcases h d with h | h <;> rw [h]; exact .undef _; exact k.slot d⟩
end Go.Sh
