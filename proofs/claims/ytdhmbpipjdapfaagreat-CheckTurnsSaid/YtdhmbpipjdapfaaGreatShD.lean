/- Shadow logic, part D: an operation's abstract outcome. -/
import Derived.Test.YtdhmbpipjdapfaaGreatShC
namespace Go.Sh
open Go.RowKit

inductive SK where | int | bool | str
inductive ORes where
  | val (v : AV)
  | load (id off n : Nat) (ag : Bool)
  | store (id off : Nat) (cs : List AV)
  | new (t : TypeId) (cs : List AV)
  | lit (sz : Nat) (xs : List (List AV))
  | app (e sz bytes : Nat) (xs ys : List (List AV)) (o : Own)
  | appr (e sz bytes id off n c : Nat) (ys : List (List AV))
  | call (f : FuncId) (args : List AV)
  | yield (id : Nat) (args : List AV)
  | mnew
  | mget (id : Nat) (k : SK) (key : AV) (ok : Bool) (z : AV)
  | mset (id : Nat) (k : SK) (key v : AV)
  | mdel (id : Nat) (k : SK) (key : AV)
  | mlen (id : Nat)
  | mrange (id : Nat)
  | mnext (id : Nat)
  | mentry (id : Nat)
  | stuck

def avEq1 : SK → AV → AV → Option Bool
  | .int, .int k a, .int k' b => if k = k' then some (decide (a = b)) else none
  | .bool, .bool a, .bool b => some (decide (a = b))
  | .str, .str a, .str b => some (decide (a = b))
  | _, _, _ => none
def avEqs : List SK → List AV → List AV → Option Bool
  | [], [], [] => some true
  | k :: ks, a :: as, b :: bs =>
    match avEq1 k a b, avEqs ks as bs with
    | some x, some y => some (x && y)
    | _, _ => none
  | _, _, _ => none

/-- Where a key is. -/
def mfind (k : SK) (key : AV) : List MEnt → Nat → Option (Option (Nat × AV))
  | [], _ => some none
  | e :: es, i => match avEq1 k key e.key with
    | some true => some (some (i, e.val))
    | some false => mfind k key es (i + 1)
    | none => none
def msetL (key v : AV) : List MEnt → Nat → List MEnt
  | [], _ => []
  | e :: es, 0 => ⟨key, v, e.born⟩ :: es
  | e :: es, i + 1 => e :: msetL key v es i
/-- What is left of a range. -/
def leftA (es : List MEnt) (seen : List Nat) : List MEnt := es.filter fun e => !seen.contains e.born
def zAVv : Value → AV
  | .agg cs => .agg (cs.toList.map zAV)
  | v => zAV v
/-- A type's zero value. -/
def zvOf (P : Program) (t : TypeId) : Option AV := ((P.info? t).bind (·.zero)).map zAVv

def scalarK (P : Program) (t : TypeId) : Option SK :=
  match P.underlying t with
  | some (.int _) => some .int
  | some .bool => some .bool
  | some .string => some .str
  | _ => none
def kindsOf (P : Program) : List Field → Nat → Option (List SK)
  | [], _ => some []
  | f :: fs, j => if f.name = "_" ∨ f.offset ≠ j then none else
    match scalarK P f.type, kindsOf P fs (j + 1) with
    | some k, some ks => some (k :: ks)
    | _, _ => none
/-- A struct type of whole numbers, bools and strings alone, each of one cell, which '==' compares field by field: their kinds. -/
def eqFlat (P : Program) (t : TypeId) : Option (List SK) :=
  match P.underlying t with
  | some (.struct fs) => if P.stoodInHeld t || P.eqGuardType P.depth t then none else kindsOf P fs.toList 0
  | _ => none

def avBin (P : Program) (op : BinOp) (t : TypeId) : AV → AV → ORes
  | .int k a, .int k' b => if k = k' then match op with
    | .add => .val (.int k (k.wrap (a + b)))
    | .sub => .val (.int k (k.wrap (a - b)))
    | .mul => .val (.int k (k.wrap (a * b)))
    | .eql => .val (.bool (decide (a = b)))
    | .neq => .val (.bool (!decide (a = b)))
    | .lss => .val (.bool (decide (a < b)))
    | .leq => .val (.bool (decide (a ≤ b)))
    | .gtr => .val (.bool (decide (b < a)))
    | .geq => .val (.bool (decide (b ≤ a)))
    | .rem => if b = 0 then .stuck else .val (.int k (a.tmod b))
    | .quo => if b = 0 then .stuck else .val (.int k (k.wrap (a.tdiv b)))
    | _ => .stuck else .stuck
  | .bool a, .bool b => match op with
    | .eql => match P.underlying t with | some .bool => .val (.bool (decide (a = b))) | _ => .stuck
    | .neq => match P.underlying t with | some .bool => .val (.bool (!decide (a = b))) | _ => .stuck
    | _ => .stuck
  | .str a, .str b => match op with
    | .add => if a.size + b.size ≤ 9223372036854775807 then .val (.str (a ++ b)) else .stuck
    | .eql => .val (.bool (decide (a = b)))
    | .neq => .val (.bool (!decide (a = b)))
    | .lss => .val (.bool (Op.bytesLess a.toList b.toList))
    | _ => .stuck
  | .agg xs, .agg ys => match eqFlat P t with
    | some ks => match op, avEqs ks xs ys with
      | .eql, some r => .val (.bool r)
      | .neq, some r => .val (.bool !r)
      | _, _ => .stuck
    | none => .stuck
  | _, _ => .stuck

def placeS (P : Program) (fs : List (Nat × TypeId)) (j : Nat) : Option (Nat × Nat) :=
  match fs[j]? with
  | some (off, t) => match tiOf P t with | some i => some (off, i.size) | none => none
  | none => none

def hasAll (P : Program) (fs : List (Nat × TypeId)) : Bool := fs.all fun f => (tiOf P f.2).isSome
def chunks (sz : Nat) (flat : List AV) (n : Nat) : List (List AV) := (List.range n).map fun i => (flat.drop (i * sz)).take sz

def evalOp (P : Program) (ρ : Operand → AV) : Op → ORes
  | .move x => .val (ρ x)
  | .assign x => .val (ρ x)
  | .pick c a b => match ρ c with
    | .bool true => .val (ρ a)
    | .bool false => .val (ρ b)
    | _ => .stuck
  | .alloc t => match tiOf P t with | some i => .new t i.zero | none => .stuck
  | .box t x => match (ρ x).cells? with | some cs => .new t cs | none => .stuck
  | .build t parts => match tiOf P t with
    | some i => match i.k with
      | .struct fs => if hasAll P fs then match fillAV (placeS P fs) i.zero (parts.toList.map fun (j, x) => (j, ρ x)) with
        | some cs => .val (.agg cs)
        | none => .stuck
        else .stuck
      | _ => .stuck
    | none => .stuck
  | .buildSlice t len parts => match tiOf P t with
    | some i => match i.k with
      | .slice e => match tiOf P e with
        | some ie => if len * ie.size ≤ 16777216 ∧ 0 < ie.size ∧ ie.zero.length = ie.size ∧ len ≤ 16777216 then
            match fillAV (fun j => some (j * ie.size, ie.size)) ((List.replicate len ie.zero).flatten) (parts.toList.map fun (j, x) => (j, ρ x)) with
            | some flat => .lit ie.size (chunks ie.size flat len)
            | none => .stuck
          else .stuck
        | none => .stuck
      | _ => .stuck
    | none => .stuck
  | .load t x => match tiOf P t with
    | some i => match ρ x with
      | .eptr cs => if i.k.agg then (if i.size ≤ cs.length then .val (.agg (cs.take i.size)) else .stuck) else
          (if i.size = 1 then match cs with | c :: _ => .val c | [] => .stuck else .stuck)
      | .box id off => if i.k.agg = false → i.size = 1 then .load id off i.size i.k.agg else .stuck
      | _ => .stuck
    | none => .stuck
  | .store t x v => match tiOf P t with
    | some i => match ρ x, (ρ v).cells? with
      | .box id off, some cs => if cs.length = i.size ∧ cs.all AV.one then .store id off cs else .stuck
      | _, _ => .stuck
    | none => .stuck
  | .fieldAddr s x f => match tiOf P s with
    | some i => match i.k with
      | .struct fs => match fs[f]? with
        | some (off, ft) => match tiOf P ft with
          | some fi => if fi.size = 0 then .stuck else match ρ x with
            | .eptr cs => .val (.eptr (cs.drop off))
            | .box id o => .val (.box id (o + off))
            | _ => .stuck
          | none => .stuck
        | none => .stuck
      | _ => .stuck
    | none => .stuck
  | .field s x f => match tiOf P s with
    | some i => match i.k with
      | .struct fs => match fs[f]? with
        | some (off, ft) => match tiOf P ft, ρ x with
          | some fi, .agg cs => if fi.k.agg then (if off + fi.size ≤ cs.length then .val (.agg ((cs.drop off).take fi.size)) else .stuck) else
              (if off < cs.length then .val (cs.getD off .undef) else .stuck)
          | _, _ => .stuck
        | none => .stuck
      | _ => .stuck
    | none => .stuck
  | .indexAddr t x ix => match tiOf P t, ρ ix with
    | some i, .int _ n => match i.k, ρ x with
      | .slice e, .list sz xs _ => match tiOf P e with
        | some ie => if 0 ≤ n ∧ n < xs.length ∧ ie.size = sz then .val (.eptr (xs.getD n.toNat [])) else .stuck
        | none => .stuck
      | .slice e, .rowp id off sz m _ => match tiOf P e with
        | some ie => if 0 ≤ n ∧ n < m ∧ ie.size = sz then .val (.box id (off + n.toNat * sz)) else .stuck
        | none => .stuck
      | .array len e, .box id off => match tiOf P e with
        | some ie => if 0 ≤ n ∧ n < len then .val (.box id (off + n.toNat * ie.size)) else .stuck
        | none => .stuck
      | .array len e, .eptr cs => match tiOf P e with
        | some ie => if 0 ≤ n ∧ n < len then .val (.eptr (cs.drop (n.toNat * ie.size))) else .stuck
        | none => .stuck
      | _, _ => .stuck
    | _, _ => .stuck
  | .index t x ix => match tiOf P t, ρ ix with
    | some i, .int _ n => match i.k, ρ x with
      | .string, .str s => if 0 ≤ n ∧ n < s.size then .val (.int .u8 ((s.data.getD n.toNat 0).toNat : Nat)) else .stuck
      | _, _ => .stuck
    | _, _ => .stuck
  | .binOp op t x y _ => avBin P op t (ρ x) (ρ y)
  | .unOp op _ x => match op, ρ x with
    | .not, .bool b => .val (.bool !b)
    | .neg, .int k n => .val (.int k (k.wrap (0 - n)))
    | _, _ => .stuck
  | .extract x j => match ρ x with
    | .tup vs => if j < vs.length then .val (vs.getD j .undef) else .stuck
    | _ => .stuck
  | .makeFunc (.func f) first captured => if first = #[] then .val (.fn f (captured.toList.map ρ)) else .stuck
  | .call c => match c.callee with
    | .value f => match ρ f with
      | .fn g caps => .call g (c.args.toList.map ρ ++ caps)
      | .yld id => .yield id (c.args.toList.map ρ)
      | _ => .stuck
    | .builtin .len => match c.args.toList.map ρ, c.argTypes.toList with
      | [.list _ xs _], [t] => match tiOf P t with
        | some i => match i.k with | .slice _ => .val (.int .i64 xs.length) | _ => .stuck
        | none => .stuck
      | [.str s], [t] => match tiOf P t with
        | some i => match i.k with | .string => .val (.int .i64 s.size) | _ => .stuck
        | none => .stuck
      | [.rowp _ _ _ m _], [t] => match tiOf P t with
        | some i => match i.k with | .slice _ => .val (.int .i64 m) | _ => .stuck
        | none => .stuck
      | [.map id], [t] => match tiOf P t with
        | some i => match i.k with | .map _ _ => .mlen id | _ => .stuck
        | none => .stuck
      | _, _ => .stuck
    | .builtin .delete => match c.args.toList.map ρ, c.argTypes.toList with
      | [.map id, key], [t, _] => match tiOf P t with
        | some i => match i.k with
          | .map kt _ => match scalarK P kt with | some k => .mdel id k key | none => .stuck
          | _ => .stuck
        | none => .stuck
      | _, _ => .stuck
    | .builtin .append => match c.args.toList.map ρ, c.argTypes.toList with
      | [.list sz xs o, .list sz' ys _], [t, t'] => match tiOf P t, tiOf P t' with
        | some i, some i' => match i.k, i'.k with
          | .slice e, .slice _ => match tiOf P e with
            | some ie => if 0 < ie.size ∧ ie.zero.length = ie.size ∧ (xs = [] ∨ sz = ie.size) ∧ (ys = [] ∨ sz' = ie.size) ∧ (ys.all fun y => y.all AV.one) ∧ (xs.length + ys.length) * ie.bytes ≤ 140737488355328 ∧ xs.length + ys.length ≤ 9223372036854775807
                then .app e ie.size ie.bytes xs ys o else .stuck
            | none => .stuck
          | _, _ => .stuck
        | _, _ => .stuck
      | [.rowp id off sz n c, .list sz' ys _], [t, t'] => match tiOf P t, tiOf P t' with
        | some i, some i' => match i.k, i'.k with
          | .slice e, .slice _ => match tiOf P e with
            | some ie => if 0 < ie.size ∧ ie.zero.length = ie.size ∧ sz = ie.size ∧ (ys = [] ∨ sz' = ie.size) ∧ (ys.all fun y => y.all AV.one) ∧ (n + ys.length) * ie.bytes ≤ 140737488355328 ∧ n + ys.length ≤ 9223372036854775807
                then .appr e ie.size ie.bytes id off n c ys else .stuck
            | none => .stuck
          | _, _ => .stuck
        | _, _ => .stuck
      | _, _ => .stuck
    | _ => .stuck
  | .slice t x lo hi mx => match tiOf P t with
    | some i => match i.k, ρ x with
      | .slice e, .list sz xs o => match tiOf P e with
        | some ie =>
          let l : AV := match lo with | some a => ρ a | none => .int .i64 0
          let h : AV := match hi with | some a => ρ a | none => .int .i64 xs.length
          let mv : AV := match mx with | some m => ρ m | none => .undef
          match l, h, mx, mv with
          | .int _ l, .int _ h, none, _ => if 0 ≤ l ∧ l ≤ h ∧ h ≤ xs.length ∧ (xs = [] ∨ ie.size = sz) then .val (.list sz ((xs.take h.toNat).drop l.toNat) (if h = xs.length ∧ o = .clip then .clip else .no)) else .stuck
          | .int _ l, .int _ h, some _, .int _ m => if 0 ≤ l ∧ l ≤ h ∧ h = m ∧ h ≤ xs.length ∧ (xs = [] ∨ ie.size = sz) ∧ hi.isSome then .val (.list sz ((xs.take h.toNat).drop l.toNat) .clip) else .stuck
          | _, _, _, _ => .stuck
        | none => .stuck
      | .slice e, .rowp id off sz n c => match tiOf P e with
        | some ie =>
          let l : AV := match lo with | some a => ρ a | none => .int .i64 0
          let h : AV := match hi with | some a => ρ a | none => .int .i64 n
          let mv : AV := match mx with | some m => ρ m | none => .int .i64 c
          match l, h, mv with
          | .int _ l, .int _ h, .int _ m => if 0 ≤ l ∧ l ≤ h ∧ h ≤ m ∧ m ≤ c ∧ ie.size = sz ∧ (mx.isSome → hi.isSome) then .val (.rowp id (if m = l then off else off + l.toNat * sz) sz (h - l).toNat (m - l).toNat) else .stuck
          | _, _, _ => .stuck
        | none => .stuck
      | .string, .str s => match mx with
        | some _ => .stuck
        | none =>
          let l : AV := match lo with | some a => ρ a | none => .int .i64 0
          let h : AV := match hi with | some a => ρ a | none => .int .i64 s.size
          match l, h with
          | .int _ l, .int _ h => if 0 ≤ l ∧ l ≤ h ∧ h ≤ s.size then .val (.str (s.extract l.toNat h.toNat)) else .stuck
          | _, _ => .stuck
      | _, _ => .stuck
    | none => .stuck
  | .makeMap t r => match tiOf P t with
    | some i => match i.k with
      | .map _ _ => match r with
        | none => .mnew
        | some x => match ρ x with | .int _ _ => .mnew | _ => .stuck
      | _ => .stuck
    | none => .stuck
  | .lookup t x ix ok => match tiOf P t with
    | some i => match i.k, ρ x with
      | .map kt vt, .map id => match scalarK P kt, zvOf P vt with
        | some k, some z => .mget id k (ρ ix) ok z
        | _, _ => .stuck
      | _, _ => .stuck
    | none => .stuck
  | .mapUpdate t m key v => match tiOf P t with
    | some i => match i.k, ρ m with
      | .map kt _, .map id => match scalarK P kt with | some k => .mset id k (ρ key) (ρ v) | none => .stuck
      | _, _ => .stuck
    | none => .stuck
  | .insert t m key v => match tiOf P t with
    | some i => match i.k, ρ m with
      | .map kt _, .map id => match scalarK P kt with | some k => .mset id k (ρ key) (ρ v) | none => .stuck
      | _, _ => .stuck
    | none => .stuck
  | .range t x => match tiOf P t with
    | some i => match i.k, ρ x with
      | .map _ _, .map id => .mrange id
      | _, _ => .stuck
    | none => .stuck
  | .next it isS => match ρ it with
    | .box id off => if isS = false ∧ off = 0 then .mnext id else .stuck
    | _ => .stuck
  | .entry it => match ρ it with
    | .box id off => if off = 0 then .mentry id else .stuck
    | _ => .stuck
  | _ => .stuck
end Go.Sh
