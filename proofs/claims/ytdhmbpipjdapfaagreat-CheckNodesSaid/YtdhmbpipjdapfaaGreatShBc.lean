import Derived.Test.YtdhmbpipjdapfaaGreatShBb
import Derived.MapKept
import Derived.Maps.RangeRun
set_option linter.unusedSimpArgs false
set_option linter.unusedVariables false

/- Shadow logic, part K: all operations together. -/
namespace Go.Sh
open Go.RowKit
section
variable {P : Program} {B n : Nat} {w0 w : World} {M : Mem} {st : St} {K : AV → St → Prop} {env : Env} {a : Act}

theorem sound_fieldAddr {s : TypeId} {x : AV} {u : Value} (hx : RepV M x u) {i fi : TI} (hs : tiOf P s = some i) {fs : List (Nat × TypeId)} (hk : i.k = .struct fs) {f off ft : Nat} (hf : fs[f]? = some (off, ft)) (hft : tiOf P ft = some fi)
    (h0 : fi.size ≠ 0) (h : resK P (match (generalizing := false) x with
            | .eptr cs => .val (.eptr (cs.drop off))
            | .box id o => .val (.box id (o + off))
            | _ => .stuck) st K) : ∃ r z, (Instr.fieldAt s u f).run P w = .ok r w ∧ RepV M z r ∧ K z st := by
  obtain ⟨d, inf, z0, h1, h2, h3, h4, h5, h6, h7⟩ := tiOf_some hs
  rw [hk] at h4
  cases d <;> simp [tkOf] at h4
  rename_i fields
  have hfield : ∃ fl, fields[f]? = some fl ∧ fl.offset = off ∧ fl.type = ft := by
    rw [← h4] at hf
    simp only [List.getElem?_map, Array.getElem?_toList] at hf
    cases hff : fields[f]? with
    | none => simp [hff] at hf
    | some fl => simp [hff] at hf; exact ⟨fl, rfl, hf.1, hf.2⟩
  obtain ⟨fl, hfl, rfl, rfl⟩ := hfield
  have hpl : ∀ ad : Addr, (fieldPlace ad fl).run P w = .ok (ad.add fl.offset) w := by
    intro ad
    simp [fieldPlace, run_sizeOf' hft, h0]
  cases hx
  case eptr cs ad g hF hg =>
    refine ⟨_, _, by simp [Instr.fieldAt, run_underlying h1, hfl, Instr.sureAddr, hpl] <;> rfl, ?_, h⟩
    refine .eptr _ _ (fun j => g (fl.offset + j)) (fun j hj => ?_) (fun j => by rw [getD_drop]; exact hg _)
    have : (ad.add fl.offset).add j = ad.add (fl.offset + j) := by
      unfold Addr.add
      by_cases c1 : fl.offset = 0
      · simp [c1]
      · by_cases c2 : j = 0
        · simp [c2, c1]
        · simp [c1, c2, Nat.add_assoc]
    rw [this]
    exact hF _ (by simp at hj; omega)
  case box id o hid =>
    refine ⟨_, _, by simp [Instr.fieldAt, run_underlying h1, hfl, Instr.sureAddr, hpl] <;> rfl, ?_, h⟩
    rw [addr_add]
    exact .box id _ hid
  all_goals exact h.elim

theorem sound_field {s : TypeId} {x : AV} {u : Value} (hx : RepV M x u) {i fi : TI} (hs : tiOf P s = some i) {fs : List (Nat × TypeId)} (hk : i.k = .struct fs) {f off ft : Nat} (hf : fs[f]? = some (off, ft)) (hft : tiOf P ft = some fi)
    (h : resK P (match (generalizing := false) x with
          | .agg cs => if fi.k.agg then (if off + fi.size ≤ cs.length then .val (.agg ((cs.drop off).take fi.size)) else .stuck) else
              (if off < cs.length then .val (cs.getD off .undef) else .stuck)
          | _ => .stuck) st K) : ∃ r z, (Instr.field s u f).run P w = .ok r w ∧ RepV M z r ∧ K z st := by
  obtain ⟨d, inf, z0, h1, h2, h3, h4, h5, h6, h7⟩ := tiOf_some hs
  rw [hk] at h4
  cases d <;> simp [tkOf] at h4
  rename_i fields
  have hfield : ∃ fl, fields[f]? = some fl ∧ fl.offset = off ∧ fl.type = ft := by
    rw [← h4] at hf
    simp only [List.getElem?_map, Array.getElem?_toList] at hf
    cases hff : fields[f]? with
    | none => simp [hff] at hf
    | some fl => simp [hff] at hf; exact ⟨fl, rfl, hf.1, hf.2⟩
  obtain ⟨fl, hfl, rfl, rfl⟩ := hfield
  cases hx
  case agg cs vs hsz hr =>
    cases hag : fi.k.agg with
    | true =>
      simp only [hag, if_true] at h
      by_cases hc : fl.offset + fi.size ≤ cs.length
      · rw [if_pos hc] at h
        have := (RepL.extract (M := M) ⟨hsz, hr⟩ fl.offset fi.size)
        exact ⟨_, _, by simp [Instr.field, run_underlying h1, hfl, asAgg, part, run_isAgg' hft, hag, run_sizeOf' hft] <;> rfl, .agg _ _ this.1 this.2, h⟩
      · rw [if_neg hc] at h; exact h.elim
    | false =>
      simp only [hag, Bool.false_eq_true, if_false] at h
      by_cases hc : fl.offset < cs.length
      · rw [if_pos hc] at h
        have hv : fl.offset < vs.size := by omega
        have := hr fl.offset
        rw [Array.getD_eq_getD_getElem?, Array.getElem?_eq_getElem hv, Option.getD_some] at this
        exact ⟨_, _, by simp [Instr.field, run_underlying h1, hfl, asAgg, part, run_isAgg' hft, hag, hv] <;> rfl, this, h⟩
      · rw [if_neg hc] at h; exact h.elim
  all_goals exact h.elim

theorem sound_indexAddr {t : TypeId} {x ix : AV} {u v : Value} (hx : RepV M x u) (hv : RepV M ix v)
    (h : resK P (match (generalizing := false) tiOf P t, ix with
    | some i, .int _ n => match (generalizing := false) i.k, x with
      | .slice e, .list sz xs _ => match (generalizing := false) tiOf P e with
        | some ie => if 0 ≤ n ∧ n < xs.length ∧ ie.size = sz then .val (.eptr (xs.getD n.toNat [])) else .stuck
        | none => .stuck
      | .slice e, .rowp id off sz m _ => match (generalizing := false) tiOf P e with
        | some ie => if 0 ≤ n ∧ n < m ∧ ie.size = sz then .val (.box id (off + n.toNat * sz)) else .stuck
        | none => .stuck
      | .array len e, .box id off => match tiOf P e with
        | some ie => if 0 ≤ n ∧ n < len then .val (.box id (off + n.toNat * ie.size)) else .stuck
        | none => .stuck
      | .array len e, .eptr cs => match tiOf P e with
        | some ie => if 0 ≤ n ∧ n < len then .val (.eptr (cs.drop (n.toNat * ie.size))) else .stuck
        | none => .stuck
      | _, _ => .stuck
    | _, _ => .stuck) st K) : ∃ r z, (Instr.indexAt t u v).run P w = .ok r w ∧ RepV M z r ∧ K z st := by
  cases ht : tiOf P t with
  | none => simp only [ht] at h; exact h.elim
  | some i =>
    simp only [ht] at h
    cases hv
    case int k m =>
      simp only at h
      obtain ⟨d, inf, z0, h1, h2, h3, h4, h5, h6, h7⟩ := tiOf_some ht
      cases hk : i.k <;> simp only [hk] at h <;> try exact h.elim
      case slice e =>
        rw [hk] at h4
        cases d <;> simp [tkOf] at h4
        rw [h4] at h1
        cases hx <;> simp only at h <;> try exact h.elim
        case nils sz o ho =>
          cases he : tiOf P e with
          | none => simp only [he] at h; exact h.elim
          | some ie =>
            simp only [he] at h
            by_cases hc : 0 ≤ m ∧ m < ([] : List (List AV)).length ∧ ie.size = sz
            · have := hc.2.1; have := hc.1; simp at *; omega
            · rw [if_neg hc] at h; exact h.elim
        case rowp0 id off sz b =>
          cases he : tiOf P e with
          | none => simp only [he] at h; exact h.elim
          | some ie =>
            simp only [he] at h
            rw [if_neg (by omega)] at h; exact h.elim
        case rowp id off sz len cap hid hlc hcm =>
          cases he : tiOf P e with
          | none => simp only [he] at h; exact h.elim
          | some ie =>
            simp only [he] at h
            by_cases hcc : 0 ≤ m ∧ m < len ∧ ie.size = sz
            · rw [if_pos hcc] at h
              obtain ⟨c1, c2, c3⟩ := hcc
              subst c3
              refine ⟨_, _, by simp [Instr.indexAt, asIntOf, run_underlying h1, c1, c2, run_sizeOf' he] <;> rfl, ?_, h⟩
              rw [addr_add]
              exact .box id _ hid
            · rw [if_neg hcc] at h; exact h.elim
        case list sz xs o ad cap g hF hg hl hc hm hoo =>
          cases he : tiOf P e with
          | none => simp only [he] at h; exact h.elim
          | some ie =>
            simp only [he] at h
            by_cases hcc : 0 ≤ m ∧ m < xs.length ∧ ie.size = sz
            · rw [if_pos hcc] at h
              obtain ⟨c1, c2, c3⟩ := hcc
              subst c3
              refine ⟨_, _, by simp [Instr.indexAt, asIntOf, run_underlying h1, c1, c2, run_sizeOf' he] <;> rfl, ?_, h⟩
              have hmi : m.toNat < xs.length := by omega
              refine .eptr _ _ (fun j => g m.toNat j) (fun j hj => ?_) (fun j => hg _ _)
              rw [hl _ hmi] at hj
              have := hF m.toNat j hmi hj
              have e2 : (ad.add (m.toNat * ie.size)).add j = ad.add (m.toNat * ie.size + j) := by
                unfold Addr.add
                by_cases c1 : m.toNat * ie.size = 0
                · simp [c1]
                · by_cases c2 : j = 0
                  · simp [c2, c1]
                  · simp only [c1, c2, if_false]; rw [if_neg (by omega), Nat.add_assoc]
              rw [e2]; exact this
            · rw [if_neg hcc] at h; exact h.elim
      case array len e =>
        rw [hk] at h4
        cases d <;> simp [tkOf] at h4
        rw [h4.1, h4.2] at h1
        cases hx <;> simp only at h <;> try exact h.elim
        case box id off hid =>
          cases he : tiOf P e with
          | none => simp only [he] at h; exact h.elim
          | some ie =>
            simp only [he] at h
            by_cases hcc : 0 ≤ m ∧ m < len
            · rw [if_pos hcc] at h
              obtain ⟨c1, c2⟩ := hcc
              refine ⟨_, _, by simp [Instr.indexAt, asIntOf, run_underlying h1, Instr.sureAddr, c1, c2, run_sizeOf' he] <;> rfl, ?_, h⟩
              rw [addr_add]
              exact .box id _ hid
            · rw [if_neg hcc] at h; exact h.elim
        case eptr cs ad g hF hg =>
          cases he : tiOf P e with
          | none => simp only [he] at h; exact h.elim
          | some ie =>
            simp only [he] at h
            by_cases hcc : 0 ≤ m ∧ m < len
            · rw [if_pos hcc] at h
              obtain ⟨c1, c2⟩ := hcc
              refine ⟨_, _, by simp [Instr.indexAt, asIntOf, run_underlying h1, Instr.sureAddr, c1, c2, run_sizeOf' he] <;> rfl, ?_, h⟩
              refine .eptr _ _ (fun j => g (m.toNat * ie.size + j)) (fun j hj => ?_) (fun j => by rw [getD_drop]; exact hg _)
              have e2 : (ad.add (m.toNat * ie.size)).add j = ad.add (m.toNat * ie.size + j) := by
                unfold Addr.add
                by_cases c1 : m.toNat * ie.size = 0
                · simp [c1]
                · by_cases c2 : j = 0
                  · simp [c2, c1]
                  · simp only [c1, c2, if_false]; rw [if_neg (by omega), Nat.add_assoc]
              rw [e2]
              exact hF _ (by simp at hj; omega)
            · rw [if_neg hcc] at h; exact h.elim
    all_goals exact h.elim


def BndAt (v : Option Value) (dflt n : Int) : Prop := (v = none ∧ n = dflt) ∨ ∃ k, v = some (.int k n)
theorem bndAt_of (hE : RepE M n env a) (x : Option Operand) (dflt : Int) {m : Int} {k : IntKind} (h : (match x with | some y => env.op y | none => .int .i64 dflt) = AV.int k m) : BndAt (x.map a.eval) dflt m := by
  cases x with
  | none => simp at h; exact .inl ⟨rfl, h.2.symm⟩
  | some y =>
    simp only at h
    have := hE.op y
    rw [h] at this
    refine .inr ⟨k, ?_⟩
    simp only [Option.map_some]
    generalize a.eval y = z at *
    cases this
    rfl
theorem run_bnd {v : Value} {k : IntKind} {m : Int} (hv : v = .int k m) (y : Nat) (code : BoundsCode) (h0 : 0 ≤ m) (h1 : m ≤ y) : (Instr.sliceBound v y code).run P w = .ok m.toNat w := by
  subst hv
  simp [Instr.sliceBound, asIntOf, h0, h1]
theorem run_bounds2 (isS : Bool) (len cap : Nat) (lo hi : Option Value) {l h : Int} (hl : BndAt lo 0 l) (hh : BndAt hi len h) (h0 : 0 ≤ l) (h1 : l ≤ h) (h2 : h ≤ cap) (hc : len ≤ cap) :
    (Instr.sliceBounds isS len cap lo hi none).run P w = .ok (l.toNat, h.toNat, cap) w := by
  unfold Instr.sliceBounds
  rcases hh with ⟨rfl, rfl⟩ | ⟨kh, rfl⟩ <;> rcases hl with ⟨rfl, rfl⟩ | ⟨kl, rfl⟩
  · simp
  · simp [run_bnd (P := P) (w := w) (k := kl) (m := l) rfl len _ h0 h1]
  · simp [run_bnd (P := P) (w := w) (k := kh) (m := h) rfl cap _ (by omega) (by omega)]
  · simp [run_bnd (P := P) (w := w) (k := kh) (m := h) rfl cap _ (by omega) (by omega), run_bnd (P := P) (w := w) (k := kl) (m := l) rfl h.toNat _ h0 (by omega)]
theorem run_bounds3 (len cap : Nat) (lo hi mx : Option Value) {l h : Int} (hl : BndAt lo 0 l) (hh : ∃ k, hi = some (.int k h)) (hm : ∃ k, mx = some (.int k h)) (h0 : 0 ≤ l) (h1 : l ≤ h) (h2 : h ≤ len) (hc : len ≤ cap) :
    (Instr.sliceBounds true len cap lo hi mx).run P w = .ok (l.toNat, h.toNat, h.toNat) w := by
  unfold Instr.sliceBounds
  obtain ⟨kh, rfl⟩ := hh
  obtain ⟨km, rfl⟩ := hm
  rcases hl with ⟨rfl, rfl⟩ | ⟨kl, rfl⟩
  · simp [run_bnd (P := P) (w := w) (k := km) (m := h) rfl cap _ (by omega) (by omega), run_bnd (P := P) (w := w) (k := kh) (m := h) rfl h.toNat _ (by omega) (by omega)]
  · simp [run_bnd (P := P) (w := w) (k := km) (m := h) rfl cap _ (by omega) (by omega), run_bnd (P := P) (w := w) (k := kh) (m := h) rfl h.toNat _ (by omega) (by omega), run_bnd (P := P) (w := w) (k := kl) (m := l) rfl h.toNat _ h0 (by omega)]

theorem run_bounds3' (len cap : Nat) (lo hi mx : Option Value) {l h m : Int} (hl : BndAt lo 0 l) (hh : ∃ k, hi = some (.int k h)) (hm : ∃ k, mx = some (.int k m)) (h0 : 0 ≤ l) (h1 : l ≤ h) (h2 : h ≤ m) (h3 : m ≤ cap) :
    (Instr.sliceBounds true len cap lo hi mx).run P w = .ok (l.toNat, h.toNat, m.toNat) w := by
  unfold Instr.sliceBounds
  obtain ⟨kh, rfl⟩ := hh
  obtain ⟨km, rfl⟩ := hm
  rcases hl with ⟨rfl, rfl⟩ | ⟨kl, rfl⟩
  · simp [run_bnd (P := P) (w := w) (k := km) (m := m) rfl cap _ (by omega) (by omega), run_bnd (P := P) (w := w) (k := kh) (m := h) rfl m.toNat _ (by omega) (by omega)]
  · simp [run_bnd (P := P) (w := w) (k := km) (m := m) rfl cap _ (by omega) (by omega), run_bnd (P := P) (w := w) (k := kh) (m := h) rfl m.toNat _ (by omega) (by omega), run_bnd (P := P) (w := w) (k := kl) (m := l) rfl h.toNat _ h0 (by omega)]

/-- A part of a row. -/
theorem rep_part {sz : Nat} {xs : List (List AV)} {o o' : Own} {base : Option Addr} {cap l h c : Nat} (hv : RepV M (.list sz xs o) (.slice base xs.length cap)) (h1 : l ≤ h) (h2 : h ≤ xs.length)
    (hc : h ≤ c) (hcc : c ≤ cap) (ho : ∀ ad, OwnOk M ad xs.length cap o → OwnOk M (ad.add (l * sz)) (h - l) (c - l) o') (ho' : ∀ id, o' ≠ .op id) :
    RepV M (.list sz ((xs.take h).drop l) o') (.slice (if c = l then base else base.map (·.add (l * sz))) (h - l) (c - l)) := by
  have hlen : ((xs.take h).drop l).length = h - l := by simp; omega
  have hget : ∀ i, i < h - l → ((xs.take h).drop l).getD i [] = xs.getD (l + i) [] := by
    intro i hi
    rw [List.getD_eq_getElem?_getD, List.getElem?_drop, List.getElem?_take, if_pos (by omega), List.getD_eq_getElem?_getD]
  rcases rep_open hv with ⟨rfl, rfl, rfl, _⟩ | ⟨ad, g, rfl, hF, hg, hcl, hm, hoo⟩
  · have : c = 0 := by omega
    subst this
    simp at h2
    subst h2
    have : l = 0 := by omega
    subst this
    simpa using RepV.nils (M := M) sz o' ho'
  · have hl : ∀ i, i < xs.length → (xs.getD i []).length = sz := by
      generalize hvv : Value.slice (some ad) xs.length cap = vv at hv
      cases hv with
      | nils _ _ _ => cases hvv
      | list _ _ _ _ _ _ _ _ hl _ _ _ => exact hl
    by_cases hcl0 : c = l
    · subst hcl0
      have he : h - c = 0 := by omega
      rw [if_pos rfl]
      have hn : (xs.take h).drop c = [] := List.length_eq_zero_iff.1 (by omega)
      rw [hn]
      have := RepV.list (M := M) sz [] o' ad (c - c) (fun _ _ => Go.undef) (fun i j hi => by simp at hi) (fun i j => .undef _) (fun i hi => by simp at hi) (by simp) (by unfold maxLen; omega)
        (by
          have := ho ad hoo
          cases o' with
          | no => trivial
          | clip => simp only [OwnOk] at this ⊢; simp
          | op id => exact absurd rfl (ho' id))
      simpa [he] using this
    · rw [if_neg hcl0]
      simp only [Option.map_some]
      have := RepV.list (M := M) sz ((xs.take h).drop l) o' (ad.add (l * sz)) (c - l) (fun i j => g (l + i) j)
        (fun i j hi hj => by
          rw [hlen] at hi
          have e2 : (ad.add (l * sz)).add (i * sz + j) = ad.add ((l + i) * sz + j) := by
            rw [Nat.add_mul, Nat.add_assoc]
            unfold Addr.add
            by_cases c1 : l * sz = 0
            · simp [c1]
            · by_cases c2 : i * sz + j = 0
              · simp [c2, c1]
              · simp only [c1, c2, if_false]; rw [if_neg (by omega), Nat.add_assoc]
          rw [e2]
          exact hF (l + i) j (by omega) hj)
        (fun i j => by
          by_cases hi : i < h - l
          · rw [hget i hi]; exact hg _ _
          · have : ((xs.take h).drop l).getD i [] = [] := by rw [List.getD_eq_getElem?_getD, List.getElem?_eq_none (by omega)]; rfl
            rw [this]; exact .undef _)
        (fun i hi => by rw [hlen] at hi; rw [hget i hi]; exact hl _ (by omega))
        (by omega) (by omega) (by rw [hlen]; exact ho ad hoo)
      rwa [hlen] at this

theorem sound_slice {t : TypeId} {x : AV} {u : Value} (hx : RepV M x u) (hE : RepE M n env a) (lo hi mx : Option Operand) {i : TI} (ht : tiOf P t = some i)
    (h : resK P (match (generalizing := false) i.k, x with
      | .slice e, .list sz xs o => match (generalizing := false) tiOf P e with
        | some ie =>
          let l : AV := match lo with | some a => env.op a | none => .int .i64 0
          let h : AV := match hi with | some a => env.op a | none => .int .i64 xs.length
          let mv : AV := match mx with | some m => env.op m | none => .undef
          match l, h, mx, mv with
          | .int _ l, .int _ h, none, _ => if 0 ≤ l ∧ l ≤ h ∧ h ≤ xs.length ∧ (xs = [] ∨ ie.size = sz) then .val (.list sz ((xs.take h.toNat).drop l.toNat) (if h = xs.length ∧ o = .clip then .clip else .no)) else .stuck
          | .int _ l, .int _ h, some _, .int _ m => if 0 ≤ l ∧ l ≤ h ∧ h = m ∧ h ≤ xs.length ∧ (xs = [] ∨ ie.size = sz) ∧ hi.isSome then .val (.list sz ((xs.take h.toNat).drop l.toNat) .clip) else .stuck
          | _, _, _, _ => .stuck
        | none => .stuck
      | .slice e, .rowp id off sz n c => match (generalizing := false) tiOf P e with
        | some ie =>
          let l : AV := match lo with | some a => env.op a | none => .int .i64 0
          let h : AV := match hi with | some a => env.op a | none => .int .i64 n
          let mv : AV := match mx with | some m => env.op m | none => .int .i64 c
          match l, h, mv with
          | .int _ l, .int _ h, .int _ m => if 0 ≤ l ∧ l ≤ h ∧ h ≤ m ∧ m ≤ c ∧ ie.size = sz ∧ (mx.isSome → hi.isSome) then .val (.rowp id (if m = l then off else off + l.toNat * sz) sz (h - l).toNat (m - l).toNat) else .stuck
          | _, _, _ => .stuck
        | none => .stuck
      | .string, .str s => match mx with
        | some _ => .stuck
        | none =>
          let l : AV := match lo with | some a => env.op a | none => .int .i64 0
          let h : AV := match hi with | some a => env.op a | none => .int .i64 s.size
          match l, h with
          | .int _ l, .int _ h => if 0 ≤ l ∧ l ≤ h ∧ h ≤ s.size then .val (.str (s.extract l.toNat h.toNat)) else .stuck
          | _, _ => .stuck
      | _, _ => .stuck) st K) : ∃ r z, (Instr.sliceAt t u (lo.map a.eval) (hi.map a.eval) (mx.map a.eval)).run P w = .ok r w ∧ RepV M z r ∧ K z st := by
  obtain ⟨d, inf, z0, h1, h2, h3, h4, h5, h6, h7⟩ := tiOf_some ht
  cases hk : i.k <;> simp only [hk] at h <;> try exact h.elim
  case string =>
    rw [hk] at h4
    cases d <;> simp [tkOf] at h4
    cases hx <;> simp only at h <;> try exact h.elim
    case str s =>
      cases mx with
      | some m => exact h.elim
      | none =>
        simp only at h
        generalize hl : (match lo with | some a => env.op a | none => AV.int .i64 0) = L at h
        generalize hh : (match hi with | some a => env.op a | none => AV.int .i64 s.size) = H at h
        cases L <;> (try simp only at h) <;> (try exact h.elim)
        cases H <;> (try simp only at h) <;> (try exact h.elim)
        rename_i kl l kh hv
        by_cases hc : 0 ≤ l ∧ l ≤ hv ∧ hv ≤ s.size
        · rw [if_pos hc] at h
          have hb := run_bounds2 (P := P) (w := w) false s.size s.size _ _ (bndAt_of hE lo 0 hl) (bndAt_of hE hi s.size hh) hc.1 hc.2.1 hc.2.2 (Nat.le_refl _)
          refine ⟨_, _, ?_, .str _, h⟩
          simp [Instr.sliceAt, Instr.slice, run_underlying h1, hb]
        · rw [if_neg hc] at h; exact h.elim
  case slice e =>
    rw [hk] at h4
    cases d <;> simp [tkOf] at h4
    rw [h4] at h1
    cases x <;> simp only at h <;> try exact h.elim
    case rowp id off sz len cap =>
      cases he : tiOf P e with
      | none => simp only [he] at h; exact h.elim
      | some ie =>
        simp only [he] at h
        generalize hl : (match lo with | some a => env.op a | none => AV.int .i64 0) = L at h
        generalize hh : (match hi with | some a => env.op a | none => AV.int .i64 len) = H at h
        generalize hm : (match mx with | some a => env.op a | none => AV.int .i64 cap) = X at h
        cases L <;> (try simp only at h) <;> (try exact h.elim)
        cases H <;> (try simp only at h) <;> (try exact h.elim)
        cases X <;> (try simp only at h) <;> (try exact h.elim)
        rename_i kl l kh hv km m
        by_cases hc : 0 ≤ l ∧ l ≤ hv ∧ hv ≤ m ∧ m ≤ cap ∧ ie.size = sz ∧ (mx.isSome = true → hi.isSome = true)
        · rw [if_pos hc] at h
          obtain ⟨c1, c2, c3, c4, c5, c6⟩ := hc
          subst c5
          generalize hu : u = uu at hx
          have hlc : len ≤ cap := by
            cases hx with
            | rowp _ _ _ _ _ _ h _ => exact h
            | rowp0 => exact Nat.le_refl _
          have hb : (Instr.sliceBounds true len cap (lo.map a.eval) (hi.map a.eval) (mx.map a.eval)).run P w = .ok (l.toNat, hv.toNat, m.toNat) w := by
            cases mx with
            | none =>
              simp only [AV.int.injEq] at hm
              have := run_bounds2 (P := P) (w := w) true len cap _ _ (bndAt_of hE lo 0 hl) (bndAt_of hE hi len hh) c1 c2 (by omega) hlc
              rw [show m.toNat = cap by omega]
              exact this
            | some mo =>
              simp only at hm
              obtain ⟨hop, rfl⟩ := Option.isSome_iff_exists.1 (c6 rfl)
              simp only at hh
              have hhr := hE.op hop
              rw [hh] at hhr
              have hmr := hE.op mo
              rw [hm] at hmr
              exact run_bounds3' (P := P) (w := w) len cap (lo.map a.eval) (some (a.eval hop)) (some (a.eval mo)) (bndAt_of hE lo 0 hl)
                ⟨kh, by generalize a.eval hop = z at hhr; cases hhr; rfl⟩ ⟨km, by generalize a.eval mo = z at hmr; cases hmr; rfl⟩ c1 c2 c3 c4
          cases hx with
          | rowp0 _ _ _ b =>
            subst hu
            have e1 : l = 0 := by omega
            have e2 : hv = 0 := by omega
            have e3 : m = 0 := by omega
            subst e1 e2 e3
            refine ⟨.slice b 0 0, _, ?_, .rowp0 id _ _ b, h⟩
            simp at hb
            simp [Instr.sliceAt, Instr.slice, run_underlying h1, hb, run_sizeOf' he]
          | rowp _ _ _ _ _ hid hlc hcm =>
          subst hu
          refine ⟨.slice (some ⟨M.pos id, if m = l then off else off + l.toNat * ie.size, none⟩) (hv - l).toNat (m - l).toNat, _, ?_, .rowp id _ _ _ _ hid (by omega) (by omega), h⟩
          have e1 : hv.toNat - l.toNat = (hv - l).toNat := by omega
          have e2 : m.toNat - l.toNat = (m - l).toNat := by omega
          by_cases hml : m = l
          · simp [Instr.sliceAt, Instr.slice, run_underlying h1, hb, run_sizeOf' he, hml, ← e1]
          · have : ¬ m.toNat = l.toNat := by omega
            simp [Instr.sliceAt, Instr.slice, run_underlying h1, hb, run_sizeOf' he, hml, this, e1, e2, addr_add]
        · rw [if_neg hc] at h; exact h.elim
    rename_i sz xs o
    cases he : tiOf P e with
    | none => simp only [he] at h; exact h.elim
    | some ie =>
      simp only [he] at h
      have hsh : ∃ base cap, u = .slice base xs.length cap ∧ xs.length ≤ cap := by
        cases hx with
        | nils _ _ _ => exact ⟨none, 0, rfl, by simp⟩
        | list _ _ _ ad cap g hF hg hl hc hm hoo => exact ⟨_, cap, rfl, hc⟩
      obtain ⟨base, cap, rfl, hxc⟩ := hsh
      generalize hl : (match lo with | some a => env.op a | none => AV.int .i64 0) = L at h
      generalize hh : (match hi with | some a => env.op a | none => AV.int .i64 xs.length) = H at h
      cases L <;> (try simp only at h) <;> (try exact h.elim)
      cases H <;> (try simp only at h) <;> (try exact h.elim)
      rename_i kl l kh hv
      cases mx with
      | none =>
        simp only at h
        by_cases hc : 0 ≤ l ∧ l ≤ hv ∧ hv ≤ xs.length ∧ (xs = [] ∨ ie.size = sz)
        · rw [if_pos hc] at h
          have hb := run_bounds2 (P := P) (w := w) true xs.length cap _ _ (bndAt_of hE lo 0 hl) (bndAt_of hE hi xs.length hh) hc.1 hc.2.1 (by omega) hxc
          refine ⟨_, _, by simp [Instr.sliceAt, Instr.slice, run_underlying h1, hb, run_sizeOf' he] <;> rfl, ?_, h⟩
          have hpart := rep_part (l := l.toNat) (h := hv.toNat) (c := cap) (o' := if hv = xs.length ∧ o = .clip then .clip else .no) hx (by omega) (by omega) (by omega) (Nat.le_refl _)
            (fun ad hoo => by
              split
              · rename_i hcl; rw [hcl.2] at hoo; simp only [OwnOk] at hoo ⊢; omega
              · trivial)
            (fun id e => by split at e <;> cases e)
          rcases hc.2.2.2 with rfl | hs
          · rcases rep_open hx with ⟨rfl, _, rfl, _⟩ | ⟨ad, g, rfl, _⟩
            · simpa using hpart
            · have l0 : l.toNat = 0 := by have := hc.2.1; have := hc.2.2.1; simp at this; omega
              rw [l0] at hpart ⊢
              simpa using hpart
          · rw [hs]; exact hpart
        · rw [if_neg hc] at h; exact h.elim
      | some m =>
        simp only at h
        have hmr := hE.op m
        cases hmv : env.op m <;> simp only [hmv] at h <;> try exact h.elim
        rename_i km mv
        rw [hmv] at hmr
        by_cases hc : 0 ≤ l ∧ l ≤ hv ∧ hv = mv ∧ hv ≤ xs.length ∧ (xs = [] ∨ ie.size = sz) ∧ hi.isSome
        · rw [if_pos hc] at h
          obtain ⟨c1, c2, c3, c4, c5, c6⟩ := hc
          subst c3
          obtain ⟨hop, rfl⟩ := Option.isSome_iff_exists.1 c6
          simp only at hh
          have hhr := hE.op hop
          rw [hh] at hhr
          have hb := run_bounds3 (P := P) (w := w) xs.length cap (lo.map a.eval) (some (a.eval hop)) (some (a.eval m)) (l := l) (h := hv) (bndAt_of hE lo 0 hl)
            ⟨kh, by generalize a.eval hop = z at hhr; cases hhr; rfl⟩ ⟨km, by generalize a.eval m = z at hmr; cases hmr; rfl⟩ c1 c2 c4 hxc
          refine ⟨_, _, by simp [Instr.sliceAt, Instr.slice, run_underlying h1, hb, run_sizeOf' he] <;> rfl, ?_, h⟩
          have hpart := rep_part (l := l.toNat) (h := hv.toNat) (c := hv.toNat) (o' := .clip) hx (by omega) (by omega) (by omega) (by omega)
            (fun ad hoo => rfl) (fun id e => by cases e)
          rcases c5 with rfl | hs
          · have h0 : hv.toNat = 0 := by simp at c4; omega
            have l0 : l.toNat = 0 := by omega
            rw [l0, h0] at hpart ⊢
            simpa using hpart
          · rw [hs]; exact hpart
        · rw [if_neg hc] at h; exact h.elim
end
end Go.Sh

/- Shadow logic, part KA: rows that may change, maps. -/
namespace Go.Sh
open Go.RowKit
section
variable {P : Program} {B n : Nat} {w0 w : World} {M : Mem} {st : St} {K : AV → St → Prop} {env : Env} {a : Act}

theorem RepL.app {M : Mem} {cs ds : List AV} {vs us : Array Value} (h : RepL M cs vs) (k : RepL M ds us) : RepL M (cs ++ ds) (vs ++ us) := by
  refine ⟨by simp [h.1, k.1], fun j => ?_⟩
  rw [agetD_append, List.getD_eq_getElem?_getD]
  by_cases hj : j < vs.size
  · rw [if_pos hj, List.getElem?_append_left (by rw [← h.1]; exact hj), ← List.getD_eq_getElem?_getD]
    exact h.2 j
  · rw [if_neg hj, List.getElem?_append_right (by rw [← h.1]; omega), ← h.1, ← List.getD_eq_getElem?_getD]
    exact k.2 _
theorem RepL.pad (M : Mem) (k : Nat) (arr : Array Value) (h : arr.size = k) : RepL M (List.replicate k .undef) arr := by
  refine ⟨by simp [h], fun j => ?_⟩
  have : (List.replicate k AV.undef).getD j .undef = .undef := by
    rw [List.getD_eq_getElem?_getD, List.getElem?_replicate]
    split <;> rfl
  rw [this]; exact .undef _
theorem flatten_len (sz : Nat) : ∀ (xs : List (List AV)), (∀ i, i < xs.length → (xs.getD i []).length = sz) → xs.flatten.length = xs.length * sz
  | [], _ => by simp
  | x :: xs, h => by
    have h0 := h 0 (by simp)
    simp only [List.getD_cons_zero] at h0
    have := flatten_len sz xs fun i hi => by have := h (i + 1) (by simp; omega); simpa using this
    simp only [List.flatten_cons, List.length_append, this, h0, List.length_cons, Nat.succ_mul]
    omega
theorem flatten_get (sz : Nat) : ∀ (xs : List (List AV)), (∀ i, i < xs.length → (xs.getD i []).length = sz) → ∀ i j, i < xs.length → j < sz → xs.flatten.getD (i * sz + j) .undef = (xs.getD i []).getD j .undef
  | [], _, i, j, hi, _ => by simp at hi
  | x :: xs, h, 0, j, _, hj => by
    have h0 := h 0 (by simp)
    simp only [List.getD_cons_zero] at h0
    simp only [List.flatten_cons, Nat.zero_mul, Nat.zero_add, List.getD_cons_zero]
    rw [List.getD_eq_getElem?_getD, List.getElem?_append_left (by omega), ← List.getD_eq_getElem?_getD]
  | x :: xs, h, i + 1, j, hi, hj => by
    have h0 := h 0 (by simp)
    simp only [List.getD_cons_zero] at h0
    have := flatten_get sz xs (fun i hi => by have := h (i + 1) (by simp; omega); simpa using this) i j (by simpa using hi) hj
    simp only [List.flatten_cons, List.getD_cons_succ]
    rw [List.getD_eq_getElem?_getD, List.getElem?_append_right (by rw [h0, Nat.succ_mul]; omega), ← this, List.getD_eq_getElem?_getD]
    congr 2
    rw [h0, Nat.succ_mul]; omega
theorem rep_flat {sz : Nat} {ys : List (List AV)} {new : Array Value} (hs : new.size = ys.length * sz) (hr : ∀ i j, i < ys.length → j < sz → RepV M ((ys.getD i []).getD j .undef) (new.getD (i * sz + j) Go.undef))
    (hl : ∀ i, i < ys.length → (ys.getD i []).length = sz) : RepL M ys.flatten new := by
  have hfl := flatten_len sz ys hl
  refine ⟨by rw [hs, hfl], fun q => ?_⟩
  by_cases hq : q < ys.length * sz
  · have hsz : 0 < sz := by
      rcases Nat.eq_zero_or_pos sz with h0 | h0
      · subst h0; simp at hq
      · exact h0
    have d1 : q / sz < ys.length := (Nat.div_lt_iff_lt_mul hsz).2 hq
    have d2 : q % sz < sz := Nat.mod_lt _ hsz
    have := hr _ _ d1 d2
    rw [← flatten_get sz ys hl _ _ d1 d2, Nat.div_add_mod'] at this
    exact this
  · rw [List.getD_eq_getElem?_getD, List.getElem?_eq_none (by omega)]; exact .undef _
/-- Cells out of an object. -/
theorem run_cells_of {id : Nat} {t : TypeId} {cs : List AV} {arr : Array Value} {wt : TypeId × Nat × Nat} (h1 : w.heap[M.pos id]? = some (.cells arr t (0, 0))) (h : RepL M cs arr) (off m : Nat) (hm : off + m ≤ cs.length) :
    (∀ w', w'.heap = w.heap → (loadCells ⟨M.pos id, off, none⟩ m).run P w' = .ok (arr.extract off (off + m)) w') ∧ RepL M ((cs.drop off).take m) (arr.extract off (off + m)) := by
  refine ⟨fun w' hw => ?_, h.extract off m⟩
  rw [run_loadCells' (w := w') _ (fun j => arr.getD (off + j) Go.undef) m fun j hj => ?_]
  · congr 1
    have hs := h.1
    apply Array.ext
    · simp; omega
    · intro i h1 h2
      have : off + i < arr.size := by simp at h1; omega
      simp [this]
  · rw [addr_add]
    have hc := cell_of_row w (M.pos id) (off + j) arr t (0, 0) h1
    have : w'.cell? ⟨M.pos id, off + j, none⟩ = w.cell? ⟨M.pos id, off + j, none⟩ := by simp only [World.cell?, hw]
    rw [this, hc]
    have := h.1
    have : off + j < arr.size := by omega
    simp [this]

theorem st_next_none (hI : Inv B w0 M st w) : st M.next = none := by
  cases hs : st M.next with
  | none => rfl
  | some o => have := hI.dom _ _ hs; omega
/-- A new row. -/
theorem inv_row (hI : Inv B w0 M st w) (t : TypeId) {cs : List AV} {arr : Array Value} (hr : RepL M cs arr) (sz m c : Nat) (hmc : m ≤ c) (hc : c ≤ maxLen) :
    ∃ M', M.le M' ∧ Inv B w0 M' (st.upd M.next (.cells t cs)) (w.alloc (.cells arr t (0, 0))) ∧ RepV M' (.rowp M.next 0 sz m c) (.slice (some ⟨w.heap.size, 0, none⟩) m c) := by
  obtain ⟨M', h1, h2, h3⟩ := inv_new hI t hr
  refine ⟨M', h1, h2, ?_⟩
  have hd := h2.dom M.next (.cells t cs) (by simp [St.upd])
  have hp : M'.pos M.next = w.heap.size := by
    generalize hv : Value.pointer (some ⟨w.heap.size, 0, none⟩) = v at h3
    cases h3
    injection hv with hv; injection hv with hv; injection hv with hv; exact hv.symm
  have := RepV.rowp (M := M') M.next 0 sz m c hd hmc hc
  rwa [hp] at this
theorem RepL.drewM {cs : List AV} {arr : Array Value} (h : RepL M cs arr) : RepL M cs arr := h

theorem sound_app0' (hI : Inv B w0 M st w) {t t' ty e : TypeId} {ie : TI} (hu : ∃ i, tiOf P t = some i ∧ i.k = .slice e) (hu' : ∃ i e', tiOf P t' = some i ∧ i.k = .slice e') (he : tiOf P e = some ie)
    {sz sz' : Nat} {ys : List (List AV)} {oy : Own} {v y : Value} (hv : RepV M (.list sz [] .clip) v) (hy : RepV M (.list sz' ys oy) y)
    (hz : ie.zero.length = ie.size) (hs' : ys = [] ∨ sz' = ie.size)
    (hb : ys.length * ie.bytes ≤ 140737488355328) (h63 : ys.length ≤ 9223372036854775807)
    {z0 : AV} (hz0 : ∀ base, RepV M z0 (.slice base 0 0)) (hK0 : ys = [] → K z0 st) (hK : ys ≠ [] → ∀ id c, st id = none → ys.length ≤ c → c ≤ maxLen → K (.rowp id 0 ie.size ys.length c) (st.upd id (.cells e (ys.flatten ++ List.replicate ((c - ys.length) * ie.size) .undef)))) :
    ∃ r w' M' z st', (Builtin.append_ #[t, t'] ty #[v, y]).run P w = .ok r w' ∧ M.le M' ∧ Inv B w0 M' st' w' ∧ RepV M' z r ∧ K z st' := by
  obtain ⟨base, cap, hve, old, hos, hor, hold, hxl⟩ := rows_read (P := P) hI hv ie.size (.inl rfl)
  obtain ⟨by_, cy, hye, new, hns, hnr, hnew, hyl⟩ := rows_read (P := P) hI hy ie.size hs'
  have hshape := run_append_shape (ty := ty) (w := w) hu hu' he base 0 cap y ys.length by_ cy hye new
  simp only [List.length_nil] at hve hor hos
  rw [hve]
  rw [hve] at hv hor
  have hcap0 : cap = 0 := by
    rcases rep_open hv with ⟨_, _, h, _⟩ | ⟨ad, g, _, _, _, _, _, hoo⟩
    · exact h
    · simpa [OwnOk] using hoo
  subst hcap0
  by_cases hy0 : ys = []
  · subst hy0
    have hn0 : new = #[] := Array.size_eq_zero_iff.1 (by simpa using hns)
    subst hn0
    have hrun := hshape.1 (Nat.le_refl _) hnr
    refine ⟨.slice base 0 0, w, M, z0, st, ?_, .refl M, hI, hz0 _, hK0 rfl⟩
    rw [hrun]; cases base <;> simp [storeCells]
  · have hpos : 0 < ys.length := List.length_pos_iff.2 hy0
    obtain ⟨cap', rest, hc1, hc2, hrs, hrun⟩ := hshape.2 (by omega) hnr old hor (by omega) (by simpa using hb)
    have ho0 : old = #[] := Array.size_eq_zero_iff.1 (by simpa using hos)
    subst ho0
    simp only [Nat.zero_add] at hrun hc1 hrs
    have hI1 := hI.drew
    have hflat : RepL M (ys.flatten ++ List.replicate ((cap' - ys.length) * ie.size) .undef) (#[] ++ new ++ rest) := by
      rw [Array.empty_append]
      exact RepL.app (rep_flat hns hnew hyl) (RepL.pad M _ _ (by rw [hrs, hz]))
    obtain ⟨M', k1, k2, k3⟩ := inv_row hI1 e hflat ie.size ys.length cap' hc1 hc2
    exact ⟨_, _, M', _, _, hrun, k1, k2, k3, hK hy0 _ _ (st_next_none hI) hc1 hc2⟩

theorem nil_rep (M : Mem) (sz : Nat) (base : Option Addr) : RepV M (.list sz [] .clip) (.slice base 0 0) := by
  cases base with
  | none => exact .nils _ _ (fun _ h => by cases h)
  | some a => exact .list sz [] .clip _ 0 (fun _ _ => Go.undef) (fun i j hi => by simp at hi) (fun i j => .undef _) (fun i hi => by simp at hi) (Nat.le_refl _) (by unfold maxLen; omega) rfl
theorem sound_appr (hI : Inv B w0 M st w) {t t' ty e : TypeId} {ie : TI} (hu : ∃ i, tiOf P t = some i ∧ i.k = .slice e) (hu' : ∃ i e', tiOf P t' = some i ∧ i.k = .slice e') (he : tiOf P e = some ie)
    {sz' id off c m : Nat} {ys : List (List AV)} {oy : Own} {v y : Value} (hv : RepV M (.rowp id off ie.size m c) v) (hy : RepV M (.list sz' ys oy) y)
    (h0 : 0 < ie.size) (hz : ie.zero.length = ie.size) (hs' : ys = [] ∨ sz' = ie.size) (hone : (ys.all fun y => y.all AV.one) = true)
    (hb : (m + ys.length) * ie.bytes ≤ 140737488355328) (h63 : m + ys.length ≤ 9223372036854775807) {b' : Nat}
    (h : resK P (.appr e ie.size b' id off m c ys) st K) :
    ∃ r w' M' z st', (Builtin.append_ #[t, t'] ty #[v, y]).run P w = .ok r w' ∧ M.le M' ∧ Inv B w0 M' st' w' ∧ RepV M' z r ∧ K z st' := by
  unfold resK at h
  split at h
  all_goals first | (rename_i e; cases e; done) | skip
  rename_i e9
  injection e9 with e1 e2 e3 e4 e5 e6 e7 e8
  subst e1 e2 e3 e4 e5 e6 e7 e8
  by_cases hc0 : c = 0
  · rw [if_pos hc0] at h
    obtain ⟨rfl, hK0, hK⟩ := h
    subst hc0
    have hsub : RepV M (.list ie.size [] .clip) v := by
      generalize hvv : v = vv at hv
      generalize hn : (0 : Nat) = nn at hv
      cases hv with
      | rowp _ _ _ _ _ hid hmc hcm => subst hn; exact .list ie.size [] .clip _ 0 (fun _ _ => Go.undef) (fun i j hi => by simp at hi) (fun i j => .undef _) (fun i hi => by simp at hi) (Nat.le_refl _) (by unfold maxLen; omega) rfl
      | rowp0 _ _ _ b =>
        cases b with
        | none => exact .nils _ _ (fun _ h => by cases h)
        | some a => exact .list ie.size [] .clip _ 0 (fun _ _ => Go.undef) (fun i j hi => by simp at hi) (fun i j => .undef _) (fun i hi => by simp at hi) (Nat.le_refl _) (by unfold maxLen; omega) rfl
    refine sound_app0' (ty := ty) hI hu hu' he hsub hy hz hs' (by simpa using hb) (by simpa using h63) (fun base => .rowp0 _ _ _ base) hK0 hK
  rw [if_neg hc0] at h
  split at h
  case h_2 => exact h.elim
  rename_i tt cs hst
  obtain ⟨g1, g2, g3, hin, hout⟩ := h
  obtain ⟨_, arr, a1, a2, a3, a4⟩ := hI.obj id _ hst
  obtain ⟨by_, cy, hye, new, hns, hnr, hnew, hyl⟩ := rows_read (P := P) hI hy ie.size hs'
  generalize hvv : v = vv at hv
  cases hv with
  | rowp0 => exact absurd rfl hc0
  | rowp _ _ _ _ _ hid hmc hcm =>
  subst hvv
  have hshape := run_append_shape (ty := ty) (w := w) hu hu' he (some ⟨M.pos id, off, none⟩) m c y ys.length by_ cy hye new
  have hnf := rep_flat (M := M) hns hnew hyl
  have hlen : new.size = ys.length * ie.size := hns
  have hcs : m * ie.size ≤ c * ie.size := Nat.mul_le_mul_right _ g2
  by_cases hle : m + ys.length ≤ c
  · have hrun := hshape.1 hle hnr
    have hle' : (m + ys.length) * ie.size ≤ c * ie.size := Nat.mul_le_mul_right _ hle
    rw [Nat.add_mul] at hle'
    have hfit : off + m * ie.size + 0 + new.toList.length ≤ arr.size := by
      have : new.toList.length = ys.length * ie.size := by simpa using hlen
      omega
    have honev : ∀ u ∈ new.toList, u.oneCell' = true := by
      refine mem_cells_one hnf ?_
      rw [List.all_eq_true]
      intro x hx
      obtain ⟨y, hy1, hy2⟩ := List.mem_flatten.1 hx
      exact List.all_eq_true.1 (List.all_eq_true.1 hone _ hy1) _ hy2
    have hst' := run_storeCells (P := P) tt (M.pos id) (off + m * ie.size) new.toList 0 arr w a1 honev hfit
    rw [Nat.add_zero] at hst'
    simp only [addr_add, hst', Result.andThen_ok] at hrun
    refine ⟨_, _, M, _, _, hrun, .refl M, hI.store (cs' := spliceL cs (off + m * ie.size) ys.flatten) hst arr (splice arr (off + m * ie.size) new.toList) a1 (RepL.splice ys.flatten new.toList ⟨a2, a3⟩ _ (by have := hnf.1; omega) (by simpa using hnf)), ?_, hin hle⟩
    exact RepV.rowp id off ie.size (m + ys.length) c hid hle hcm
  · have hold := run_cells_of (P := P) (wt := (0, 0, 0)) a1 ⟨a2, a3⟩ off (m * ie.size) (by omega)
    have hor : ∀ w', w'.heap = w.heap → (Builtin.firstCells ie.size m (.slice (some ⟨M.pos id, off, none⟩) m c)).run P w' = .ok (arr.extract off (off + m * ie.size)) w' := fun w' hw => hold.1 w' hw
    obtain ⟨cap', rest, hc1, hc2, hrs, hrun⟩ := hshape.2 hle hnr _ hor h63 hb
    have hI1 := hI.drew
    have hflat : RepL M ((cs.drop off).take (m * ie.size) ++ ys.flatten ++ List.replicate ((cap' - (m + ys.length)) * ie.size) .undef) (arr.extract off (off + m * ie.size) ++ new ++ rest) :=
      RepL.app (RepL.app hold.2 hnf) (RepL.pad M _ _ (by rw [hrs, hz]))
    obtain ⟨M', k1, k2, k3⟩ := inv_row hI1 e hflat ie.size (m + ys.length) cap' hc1 hc2
    exact ⟨_, _, M', _, _, hrun, k1, k2, k3, hout (by omega) _ _ (st_next_none hI) hc1 hc2⟩
end
end Go.Sh

/- Shadow logic, part KB: maps. -/
namespace Go.Sh
open Go.RowKit
open Go.MapKept (run_findKey)
section
variable {P : Program} {B n : Nat} {w0 w : World} {M : Mem} {st : St} {K : AV → St → Prop} {env : Env} {a : Act}

theorem upd_key {st : St} {id : Nat} {o : AObj} {i : Nat} {x : AObj} (e : (st.upd id o) i = some x) : i = id ∧ x = o ∨ i ≠ id ∧ st i = some x := by
  simp only [St.upd] at e
  split at e
  · rename_i hi; injection e with e; exact .inl ⟨hi, e.symm⟩
  · rename_i hi; exact .inr ⟨hi, e⟩
theorem O_none' (hI : Inv B w0 M st w) : M.O w.heap.size = none := by
  cases ho : M.O w.heap.size with
  | none => rfl
  | some o => have := (Array.getElem?_eq_some_iff.1 (hI.oth _ _ ho).1).1; omega
/-- A block that holds no cells is laid: an object's. -/
theorem Inv.layObj (h : Inv B w0 M st w) (o : Obj) (ao : AObj) (hok : ObjOk (M.grow w.heap.size 0 0 #[]) (w.alloc o) w.heap.size 0 ao) :
    M.le (M.grow w.heap.size 0 0 #[]) ∧ Inv B w0 (M.grow w.heap.size 0 0 #[]) (st.upd M.next ao) (w.alloc o) := by
  have hle := h.grow_le 0 0 #[]
  have key : ∀ i x, (st.upd M.next ao) i = some x → i = M.next ∧ x = ao ∨ i < M.next ∧ st i = some x := by
    intro i x e
    rcases upd_key e with h1 | ⟨_, h1⟩
    · exact .inl h1
    · exact .inr ⟨h.dom i x h1, h1⟩
  refine ⟨hle, h.below.alloc h.size _, by simp; have := h.size; omega, fun a v e => ?_, fun i x e => ?_, fun i j oi oj ei ej hp => ?_, fun i x e => ?_, fun k x e => ?_, h.rnd⟩
  · simp only [Mem.grow] at e
    split at e
    · split at e
      · rename_i hs; omega
      · cases e
    · have hm := h.mem a v e
      rename_i hb
      simp only [World.cell?, heap_alloc, hb, if_false]
      exact hm
  · simp only [Mem.grow]
    rcases key i x e with ⟨e, _⟩ | ⟨e, _⟩ <;> omega
  · rcases key i oi ei with ⟨e1, _⟩ | ⟨e1, f1⟩ <;> rcases key j oj ej with ⟨e2, _⟩ | ⟨e2, f2⟩
    · omega
    · simp only [Mem.grow, e1, if_true] at hp
      rw [if_neg (by omega)] at hp
      have := (h.obj j oj f2).2.block; omega
    · simp only [Mem.grow, e2, if_true] at hp
      rw [if_neg (by omega)] at hp
      have := (h.obj i oi f1).2.block; omega
    · simp only [Mem.grow] at hp
      rw [if_neg (by omega), if_neg (by omega)] at hp
      exact h.inj i j oi oj f1 f2 hp
  · rcases key i x e with ⟨e1, e2⟩ | ⟨e1, f1⟩
    · subst e2
      simp only [Mem.grow, e1, if_true]
      exact ⟨h.size, hok⟩
    · have hb := (h.obj i x f1).2.block
      simp only [Mem.grow]
      rw [if_neg (by omega), if_neg (by omega)]
      refine ⟨(h.obj i x f1).1, (h.obj i x f1).2.keep hle (by rw [heap_alloc, if_neg (by omega)]) fun a ha => ?_⟩
      show (if _ then _ else _) = _; rw [if_neg (by omega)]
  · obtain ⟨h1, h2⟩ := h.oth _ _ (show M.O k = some x from e)
    have := (Array.getElem?_eq_some_iff.1 h1).1
    exact ⟨by rw [heap_alloc, if_neg (by omega)]; exact h1, h2⟩
/-- An object that holds no cells is turned. -/
theorem Inv.turnObj (h : Inv B w0 M st w) {id : Nat} {ao ao' : AObj} (hid : st id = some ao) (o o' : Obj) (ho : w.heap[M.pos id]? = some o) (hc : o.isCells = false) (hO : M.O (M.pos id) = none)
    (hok : ObjOk M (w.putObj (M.pos id) o') (M.pos id) (M.cap id) ao') : Inv B w0 M (st.upd id ao') (w.putObj (M.pos id) o') := by
  have hlt := (Array.getElem?_eq_some_iff.1 ho).1
  have hB := (h.obj id _ hid).1
  refine ⟨⟨h.below.os, h.below.tape, h.below.output, by simpa using h.below.size, fun i hi => by rw [World.putObj_heap_other (by omega)]; exact h.below.block i hi⟩, by simpa using h.size, fun a v e => ?_, fun i x e => ?_, fun i j oi oj ei ej hp => ?_, fun i x e => ?_, fun k x e => ?_, h.rnd⟩
  · have hm := h.mem a v e
    have hne : a.block ≠ M.pos id := by
      intro hb
      simp only [World.cell?, hb, ho] at hm
      cases o <;> simp [Obj.isCells] at hm hc
    simp only [World.cell?]
    rw [World.putObj_heap_other hne]
    exact hm
  · rcases upd_key e with ⟨rfl, _⟩ | ⟨_, e⟩
    · exact h.dom _ _ hid
    · exact h.dom _ _ e
  · have key : ∀ i x, (st.upd id ao') i = some x → ∃ y, st i = some y := by
      intro i x e
      rcases upd_key e with ⟨e1, _⟩ | ⟨_, e⟩
      · rw [e1]; exact ⟨_, hid⟩
      · exact ⟨_, e⟩
    obtain ⟨_, fi⟩ := key i oi ei
    obtain ⟨_, fj⟩ := key j oj ej
    exact h.inj i j _ _ fi fj hp
  · rcases upd_key e with ⟨rfl, rfl⟩ | ⟨hne, e⟩
    · exact ⟨hB, hok⟩
    · have hp : M.pos i ≠ M.pos id := fun hp => hne (h.inj i id x _ e hid hp)
      exact ⟨(h.obj i x e).1, (h.obj i x e).2.keep (.refl M) (World.putObj_heap_other hp) fun _ _ => rfl⟩
  · obtain ⟨k1, k2⟩ := h.oth k x e
    have hne : k ≠ M.pos id := by rintro rfl; rw [hO] at e; cases e
    exact ⟨(World.putObj_heap_other hne).trans k1, k2⟩

theorem putObj_eq (w : World) (r : Nat) (o : Obj) : ({ w with heap := w.heap.setIfInBounds r o } : World) = w.putObj r o := rfl
theorem sound_mnew (hI : Inv B w0 M st w) (h : ∀ id, st id = none → K (.map id) (st.upd id (.map [] 0))) :
    ∃ M' v st', M.le M' ∧ Inv B w0 M' st' (w.alloc (.map #[] 0)) ∧ RepV M' v (.map (some w.heap.size)) ∧ K v st' := by
  obtain ⟨h1, h2⟩ := hI.layObj (.map #[] 0) (.map [] 0) ⟨(O_none' hI : M.O w.heap.size = none), #[], by rw [heap_alloc, if_pos rfl], rfl, fun j e x he => by simp at he⟩
  refine ⟨_, _, _, h1, h2, ?_, h _ (st_next_none hI)⟩
  have := RepV.map (M := M.grow w.heap.size 0 0 #[]) M.next (by simp [Mem.grow])
  simpa [Mem.grow] using this

theorem eq1_now {k : SK} {kt : TypeId} (hk : scalarK P kt = some k) : ∃ d, P.underlying kt = some d ∧ ∀ (u v : AV) (x y : Value) (b : Bool), RepV M u x → RepV M v y → avEq1 k u v = some b → Instr.sameNow d x y = some b := by
  unfold scalarK at hk
  cases hu : P.underlying kt with
  | none => simp [hu] at hk
  | some d =>
    refine ⟨d, rfl, fun u v x y b hx hy he => ?_⟩
    cases d <;> simp [hu] at hk <;> subst hk <;> cases hx <;> cases hy <;> simp [avEq1] at he
    · subst he; simp [Instr.sameNow]; exact Bool.beq_eq_decide_eq ..
    · obtain ⟨rfl, rfl⟩ := he; simp [Instr.sameNow]; rw [Bool.eq_iff_iff]; simp
    · subst he
      simp [Instr.sameNow]
      rename_i a b
      have := beq_toListBytes a b
      rw [beq_bytes] at this
      exact this
theorem find_now {k : SK} {d : TypeDesc} {key : AV} {kx : Value} (hd : ∀ (u v : AV) (x y : Value) (b : Bool), RepV M u x → RepV M v y → avEq1 k u v = some b → Instr.sameNow d x y = some b) (hkx : RepV M key kx) :
    ∀ (es : List MEnt) (xs : List MapEntry) (i : Nat) (r : Option (Nat × AV)), xs.length = es.length → (∀ (j : Nat) (e : MEnt) (x : MapEntry), es[j]? = some e → xs[j]? = some x → RepV M e.key x.key ∧ RepV M e.val x.val ∧ x.born = e.born) →
    mfind k key es i = some r → (match r with | none => Instr.findNow d kx xs i = some none | some (j, v) => ∃ x, i ≤ j ∧ xs[j - i]? = some x ∧ (∃ e, es[j - i]? = some e ∧ e.val = v) ∧ Instr.findNow d kx xs i = some (some (j, x.val)) ∧ avEq1 k key (es[j - i]?.getD default).key = some true)
  | [], [], i, r, _, _, hf => by
    simp only [mfind, Option.some.injEq] at hf
    subst hf
    rfl
  | [], _ :: _, _, _, hl, _, _ => by simp at hl
  | _ :: _, [], _, _, hl, _, _ => by simp at hl
  | e :: es, x :: xs, i, r, hl, hr, hf => by
    have h0 := hr 0 e x rfl rfl
    simp only [mfind] at hf
    cases he : avEq1 k key e.key with
    | none => simp [he] at hf
    | some b =>
      have hs := hd _ _ _ _ _ hkx h0.1 he
      cases b with
      | true =>
        simp only [he, Option.some.injEq] at hf
        subst hf
        exact ⟨x, Nat.le_refl _, by simp, ⟨e, by simp⟩, by simp [Instr.findNow, hs], by simpa using he⟩
      | false =>
        simp only [he] at hf
        have ih := find_now hd hkx es xs (i + 1) r (by simpa using hl) (fun j e' x' h1 h2 => hr (j + 1) e' x' (by simpa using h1) (by simpa using h2)) hf
        cases r with
        | none => simp only at ih ⊢; simp [Instr.findNow, hs, ih]
        | some p =>
          obtain ⟨j, v⟩ := p
          simp only at ih ⊢
          obtain ⟨y, h1, h2, ⟨e', h3, h4⟩, h5, h6⟩ := ih
          have hji : j - i = (j - (i + 1)) + 1 := by omega
          refine ⟨y, by omega, by rw [hji]; simpa using h2, ⟨e', by rw [hji]; simpa using h3, h4⟩, by simp [Instr.findNow, hs, h5], by rw [hji]; simpa using h6⟩

theorem map_of {id : Nat} {es : List MEnt} {clock : Nat} (hI : Inv B w0 M st w) (hs : st id = some (.map es clock)) :
    M.O (M.pos id) = none ∧ ∃ arr : Array MapEntry, w.heap[M.pos id]? = some (.map arr clock) ∧ arr.toList.length = es.length ∧ ∀ (j : Nat) (e : MEnt) (x : MapEntry), es[j]? = some e → arr.toList[j]? = some x → RepV M e.key x.key ∧ RepV M e.val x.val ∧ x.born = e.born := by
  obtain ⟨_, h0, arr, h1, h2, h3⟩ := hI.obj id _ hs
  exact ⟨h0, arr, h1, by simpa using h2, fun j e x he hx => h3 j e x he (by simpa using hx)⟩
theorem run_checkKey' {kt : TypeId} {k : SK} (hk : scalarK P kt = some k) (em : Bool) (m : Nat) (x : Value) : (Instr.checkKey em (m + 1) kt x).run P w = .ok () w := by
  unfold scalarK at hk
  unfold Instr.checkKey
  cases hu : P.underlying kt with
  | none => simp [hu] at hk
  | some d => simp only [Sem.run_bind, run_underlying hu, Result.andThen]; cases d <;> simp [hu] at hk <;> rfl
theorem run_zv {t : TypeId} {z : AV} (h : zvOf P t = some z) (M : Mem) : ∃ x, (zeroValue t).run P w = .ok x w ∧ RepV M z x := by
  unfold zvOf at h
  cases hi : P.info? t with
  | none => simp [hi] at h
  | some i =>
    cases hz : i.zero with
    | none => simp [hi, hz] at h
    | some x =>
      simp [hi, hz] at h
      subst h
      refine ⟨x, by simp [zeroValue, run_info hi, hz], ?_⟩
      unfold zAVv
      split
      · rename_i cs
        exact .agg _ _ (by simp) fun j => (RepL.ofZero M cs).2 j
      · exact zAV_rep M _

theorem sound_mget (hI : Inv B w0 M st w) {t kt vt : TypeId} {k : SK} {z : AV} (hu : P.underlying t = some (.map kt vt)) (hk : scalarK P kt = some k) (hz : zvOf P vt = some z) {id : Nat} {key : AV} {kx mx : Value} (hm : RepV M (.map id) mx) (hkx : RepV M key kx) (ok : Bool)
    (h : resK P (.mget id k key ok z) st K) : ∃ r v, (Instr.lookup t mx kx ok).run P w = .ok r w ∧ RepV M v r ∧ K v st := by
  unfold resK at h
  split at h
  all_goals first | (rename_i e; cases e; done) | skip
  rename_i e9
  injection e9 with e1 e2 e3 e4 e5
  subst e1 e2 e3 e4 e5
  split at h
  case h_2 => exact h.elim
  rename_i es clock hs
  obtain ⟨hO, arr, a1, a2, a3⟩ := map_of hI hs
  obtain ⟨d, hd, hn⟩ := eq1_now (M := M) hk
  generalize hmm : mx = mm at hm
  cases hm
  subst hmm
  split at h
  · rename_i j v hf
    obtain ⟨x, h1, h2, ⟨e, h3, h4⟩, h5, _⟩ := find_now hn hkx es arr.toList 0 _ a2 a3 hf
    have hv : RepV M v x.val := by rw [← h4]; exact (a3 _ e x h3 h2).2.1
    have hfk := run_findKey (P := P) (w := w) hd h5
    have hrun : (Instr.lookup t (.map (some (M.pos id))) kx ok).run P w = .ok (if ok then .tuple #[x.val, .bool true] else x.val) w := by
      simp only [Instr.lookup, Sem.run_bind, run_underlying hu, Result.andThen_ok, MapKept.run_getObj_map a1, Sem.run_pure, run_checkKey' hk, hfk]
    refine ⟨_, _, hrun, ?_, h⟩
    cases ok with
    | true => exact .tup _ _ rfl (fun j => by rcases j with _ | _ | j <;> simp <;> first | exact hv | exact .bool _ | exact .undef _)
    | false => exact hv
  · rename_i hf
    have h5 : Instr.findNow d kx arr.toList 0 = some none := find_now hn hkx es arr.toList 0 _ a2 a3 hf
    have hfk := run_findKey (P := P) (w := w) hd h5
    obtain ⟨zx, hzr, hzv⟩ := run_zv (P := P) (w := w) hz M
    have hrun : (Instr.lookup t (.map (some (M.pos id))) kx ok).run P w = .ok (if ok then .tuple #[zx, .bool false] else zx) w := by
      simp only [Instr.lookup, Sem.run_bind, run_underlying hu, Result.andThen_ok, MapKept.run_getObj_map a1, Sem.run_pure, run_checkKey' hk, hfk, hzr]
    refine ⟨_, _, hrun, ?_, h⟩
    cases ok with
    | true => exact .tup _ _ rfl (fun j => by rcases j with _ | _ | j <;> simp <;> first | exact hzv | exact .bool _ | exact .undef _)
    | false => exact hzv
  · exact h.elim

theorem msetL_get (key v : AV) : ∀ (es : List MEnt) (i j : Nat) (e : MEnt), (msetL key v es i)[j]? = some e → (j = i ∧ ∃ e0, es[j]? = some e0 ∧ e = ⟨key, v, e0.born⟩) ∨ (j ≠ i ∧ es[j]? = some e)
  | [], _, _, _, h => by simp [msetL] at h
  | x :: es, 0, j, e, h => by
    cases j with
    | zero => simp [msetL] at h; exact .inl ⟨rfl, x, rfl, h.symm⟩
    | succ j => simp [msetL] at h; exact .inr ⟨by omega, by simpa using h⟩
  | x :: es, i + 1, j, e, h => by
    cases j with
    | zero => simp [msetL] at h; exact .inr ⟨by omega, by simpa using h⟩
    | succ j =>
      simp [msetL] at h
      rcases msetL_get key v es i j e h with ⟨h1, e0, h2, h3⟩ | ⟨h1, h2⟩
      · exact .inl ⟨by omega, e0, by simpa using h2, h3⟩
      · exact .inr ⟨by omega, by simpa using h2⟩
theorem msetL_len (key v : AV) : ∀ (es : List MEnt) (i : Nat), (msetL key v es i).length = es.length
  | [], _ => rfl
  | _ :: es, 0 => rfl
  | _ :: es, i + 1 => by simp [msetL, msetL_len key v es i]
theorem same_bits {k : SK} {u v : AV} {x y : Value} (hx : RepV M u x) (hy : RepV M v y) (h : avEq1 k u v = some true) (m : Nat) : Instr.sameBits (m + 1) y x = true ∧ y = x := by
  cases k <;> cases hx <;> cases hy <;> simp [avEq1] at h
  · obtain ⟨rfl, rfl⟩ := h; simp [Instr.sameBits]
  · subst h; simp [Instr.sameBits]
  · subst h
    refine ⟨?_, rfl⟩
    simp only [Instr.sameBits]
    rename_i s
    have := beq_toListBytes s s
    rw [beq_bytes] at this
    simpa using this

theorem sound_mset (hI : Inv B w0 M st w) {t kt vt : TypeId} {k : SK} (hu : P.underlying t = some (.map kt vt)) (hk : scalarK P kt = some k) {id : Nat} {key v : AV} {kx vx mx : Value} (hm : RepV M (.map id) mx) (hkx : RepV M key kx) (hvx : RepV M v vx)
    (h : resK P (.mset id k key v) st K) : ∃ w' st', (Instr.mapUpdate t mx kx vx).run P w = .ok () w' ∧ Inv B w0 M st' w' ∧ K .undef st' := by
  unfold resK at h
  split at h
  all_goals first | (rename_i e; cases e; done) | skip
  rename_i e9
  injection e9 with e1 e2 e3 e4
  subst e1 e2 e3 e4
  split at h
  case h_2 => exact h.elim
  rename_i es clock hs
  obtain ⟨hO, arr, a1, a2, a3⟩ := map_of hI hs
  have hlt := (Array.getElem?_eq_some_iff.1 a1).1
  obtain ⟨d, hd, hn⟩ := eq1_now (M := M) hk
  generalize hmm : mx = mm at hm
  cases hm
  subst hmm
  split at h
  · rename_i j v0 hf
    obtain ⟨x, h1, h2, ⟨e, h3, h4⟩, h5, h6⟩ := find_now hn hkx es arr.toList 0 _ a2 a3 hf
    rw [Nat.sub_zero] at h2 h3 h6
    have hfk := run_findKey (P := P) (w := w) hd h5
    have he := a3 j e x h3 h2
    rw [h3] at h6
    have hsb := same_bits hkx he.1 h6
    have hx2 : arr[j]? = some x := by simpa using h2
    have hstay : (Instr.keyThatStays x.key kx).run P w = .ok kx w := by
      unfold Instr.keyThatStays
      rw [if_pos (hsb 9999).1]; rfl
    have hrun : (Instr.mapUpdate t (.map (some (M.pos id))) kx vx).run P w = .ok () (w.putObj (M.pos id) (.map (arr.modify j fun e => { e with key := kx, val := vx }) clock)) := by
      simp only [Instr.mapUpdate, Sem.run_bind, run_underlying hu, Result.andThen_ok, MapKept.run_getObj_map a1, run_checkKey' hk, hfk, hx2, Option.map_some, Option.getD_some, hstay, MapKept.run_setObj_map _ a1]
      rfl
    refine ⟨_, _, hrun, hI.turnObj (ao' := .map (msetL key v es j) clock) hs _ _ a1 rfl hO ⟨hO, _, World.putObj_heap_same hlt, by simpa [msetL_len] using a2, fun i e' x' he' hx' => ?_⟩, h⟩
    rw [Array.getElem?_modify] at hx'
    rcases msetL_get key v es j i e' he' with ⟨rfl, e0, g1, rfl⟩ | ⟨hne, g1⟩
    · rw [if_pos rfl, hx2] at hx'
      simp only [Option.map_some, Option.some.injEq] at hx'
      subst hx'
      rw [h3] at g1; injection g1 with g1; subst g1
      exact ⟨hkx, hvx, he.2.2⟩
    · rw [if_neg (Ne.symm hne)] at hx'
      exact a3 i e' x' g1 (by simpa using hx')
  · rename_i hf
    have h5 : Instr.findNow d kx arr.toList 0 = some none := find_now hn hkx es arr.toList 0 _ a2 a3 hf
    have hfk := run_findKey (P := P) (w := w) hd h5
    have hrun : (Instr.mapUpdate t (.map (some (M.pos id))) kx vx).run P w = .ok () (w.putObj (M.pos id) (.map (arr.push { key := kx, val := vx, born := clock }) (clock + 1))) := by
      simp only [Instr.mapUpdate, Sem.run_bind, run_underlying hu, Result.andThen_ok, MapKept.run_getObj_map a1, run_checkKey' hk, hfk, MapKept.run_setObj_map _ a1]
      rfl
    refine ⟨_, _, hrun, hI.turnObj (ao' := .map (es ++ [⟨key, v, clock⟩]) (clock + 1)) hs _ _ a1 rfl hO ⟨hO, _, World.putObj_heap_same hlt, by simpa using a2, fun i e' x' he' hx' => ?_⟩, h⟩
    have ha2 : arr.size = es.length := by simpa using a2
    rw [Array.getElem?_push] at hx'
    by_cases hi : i < es.length
    · rw [List.getElem?_append_left hi] at he'
      rw [if_neg (by omega)] at hx'
      exact a3 i e' x' he' (by simpa using hx')
    · rw [List.getElem?_append_right (by omega)] at he'
      have : i = es.length := by
        have := (List.getElem?_eq_some_iff.1 he').1
        simp at this; omega
      subst this
      simp only [Nat.sub_self, List.getElem?_cons_zero, Option.some.injEq] at he'
      rw [if_pos ha2.symm] at hx'
      injection hx' with hx'
      subst he' hx'
      exact ⟨hkx, hvx, rfl⟩
  · exact h.elim

theorem sound_mdel (hI : Inv B w0 M st w) {t kt vt t' ty : TypeId} {k : SK} (hu : P.underlying t = some (.map kt vt)) (hk : scalarK P kt = some k) {id : Nat} {key : AV} {kx mx : Value} (hm : RepV M (.map id) mx) (hkx : RepV M key kx)
    (h : resK P (.mdel id k key) st K) : ∃ w' st', (Builtin.delete_ #[t, t'] ty #[mx, kx]).run P w = .ok (.tuple #[]) w' ∧ Inv B w0 M st' w' ∧ K (.tup []) st' := by
  unfold resK at h
  split at h
  all_goals first | (rename_i e; cases e; done) | skip
  rename_i e9
  injection e9 with e1 e2 e3
  subst e1 e2 e3
  split at h
  case h_2 => exact h.elim
  rename_i es clock hs
  obtain ⟨hO, arr, a1, a2, a3⟩ := map_of hI hs
  have hlt := (Array.getElem?_eq_some_iff.1 a1).1
  obtain ⟨d, hd, hn⟩ := eq1_now (M := M) hk
  generalize hmm : mx = mm at hm
  cases hm
  subst hmm
  have ha2 : arr.size = es.length := by simpa using a2
  split at h
  · rename_i j v0 hf
    obtain ⟨x, h1, h2, ⟨e, h3, h4⟩, h5, h6⟩ := find_now hn hkx es arr.toList 0 _ a2 a3 hf
    rw [Nat.sub_zero] at h2 h3 h6
    have hfk := run_findKey (P := P) (w := w) hd h5
    have hj : j < arr.size := by have := (List.getElem?_eq_some_iff.1 h2).1; simpa using this
    have hrun : (Builtin.delete_ #[t, t'] ty #[.map (some (M.pos id)), kx]).run P w = .ok (.tuple #[]) (w.putObj (M.pos id) (.map (arr.eraseIdxIfInBounds j) clock)) := by
      simp only [Builtin.delete_, List.getElem?_toArray, List.getElem?_cons_zero, List.getElem?_cons_succ, Sem.run_bind, run_underlying hu, Result.andThen_ok, MapKept.run_getObj_map a1, run_checkKey' hk, hfk, MapKept.run_setObj_map _ a1]
      rfl
    have hte : (arr.eraseIdxIfInBounds j).toList = arr.toList.eraseIdx j := by
      unfold Array.eraseIdxIfInBounds
      rw [dif_pos hj, Array.toList_eraseIdx]
    refine ⟨_, _, hrun, hI.turnObj (ao' := .map (es.eraseIdx j) clock) hs _ _ a1 rfl hO ⟨hO, _, World.putObj_heap_same hlt, ?_, fun i e' x' he' hx' => ?_⟩, h⟩
    · have e1 : (arr.eraseIdxIfInBounds j).size = (arr.toList.eraseIdx j).length := by rw [← hte, Array.length_toList]
      rw [e1, List.length_eraseIdx, List.length_eraseIdx]
      simp [ha2]
    · have hx2 : (arr.toList.eraseIdx j)[i]? = some x' := by rw [← hte, Array.getElem?_toList]; exact hx'
      rw [List.getElem?_eraseIdx] at he' hx2
      by_cases hij : i < j
      · rw [if_pos hij] at he' hx2
        exact a3 i e' x' he' hx2
      · rw [if_neg hij] at he' hx2
        exact a3 (i + 1) e' x' he' hx2
  · rename_i hf
    have h5 : Instr.findNow d kx arr.toList 0 = some none := find_now hn hkx es arr.toList 0 _ a2 a3 hf
    have hfk := run_findKey (P := P) (w := w) hd h5
    have hrun : (Builtin.delete_ #[t, t'] ty #[.map (some (M.pos id)), kx]).run P w = .ok (.tuple #[]) (w.putObj (M.pos id) (.map arr clock)) := by
      simp only [Builtin.delete_, List.getElem?_toArray, List.getElem?_cons_zero, List.getElem?_cons_succ, Sem.run_bind, run_underlying hu, Result.andThen_ok, MapKept.run_getObj_map a1, run_checkKey' hk, hfk, MapKept.run_setObj_map _ a1]
      rfl
    have := hI.turnObj hs _ (.map arr clock) a1 rfl hO (ao' := .map es clock) ⟨hO, arr, World.putObj_heap_same hlt, ha2, fun i e' x' he' hx' => a3 i e' x' he' (by simpa using hx')⟩
    have hsame : st.upd id (.map es clock) = st := by
      funext i
      simp only [St.upd]
      split
      · rename_i hi; rw [hi, hs]
      · rfl
    rw [hsame] at this
    exact ⟨_, _, hrun, this, h⟩
  · exact h.elim

theorem sound_clr (hI : Inv B w0 M st w) {t ty e : TypeId} {ie : TI} (hu : P.underlying t = some (.slice e)) (he : tiOf P e = some ie) {id off m c : Nat} {x : Value} (hx : RepV M (.rowp id off ie.size m c) x)
    (hz : ie.zero.length = ie.size) (hone : ie.zero.all AV.one = true) (h : resK P (.clr id off (m * ie.size)) st K) : ∃ w' st', (Builtin.clear_ #[t] ty #[x]).run P w = .ok (.tuple #[]) w' ∧ Inv B w0 M st' w' ∧ K (.tup []) st' := by
  obtain ⟨k0, k1⟩ := h
  have zero : m = 0 → (Builtin.clear_ #[t] ty #[x]).run P w = .ok (.tuple #[]) w := by
    rintro rfl
    generalize hn : (0 : Nat) = nn at hx
    cases hx with
    | rowp _ _ _ _ _ hid hmc hcm => subst hn; simp [Builtin.clear_, run_underlying hu]
    | rowp0 _ _ _ b => cases b <;> simp [Builtin.clear_, run_underlying hu]
  by_cases hm : m = 0
  · exact ⟨w, st, zero hm, hI, k0 (by rw [hm, Nat.zero_mul])⟩
  cases hx with
  | rowp0 => exact absurd rfl hm
  | rowp _ _ _ _ _ hid hmc hcm =>
  obtain ⟨z, hzr, hzv⟩ := rep_zero (P := P) (w := w) he M
  have hzs : z.cells.size = ie.size := by rw [hzv.1, hz]
  have hcells : (Builtin.zeroCells z.cells m).toList.length = m * ie.size := by simp [Builtin.zeroCells, hzs]
  by_cases hs0 : m * ie.size = 0
  · refine ⟨w, st, ?_, hI, k0 hs0⟩
    have : (Builtin.zeroCells z.cells m).toList = [] := List.length_eq_zero_iff.1 (by rw [hcells]; exact hs0)
    have hne : ∀ mm, m = mm + 1 → (Builtin.clear_ #[t] ty #[.slice (some ⟨M.pos id, off, none⟩) (mm + 1) c]).run P w = .ok (.tuple #[]) w := by
      intro mm e
      subst e
      simp [Builtin.clear_, run_underlying hu, hzr, this, storeCells]
    obtain ⟨mm, e⟩ : ∃ mm, m = mm + 1 := ⟨m - 1, by omega⟩
    have := hne mm e
    rwa [← e] at this
  have k1 := k1 hs0
  split at k1
  case h_2 => exact k1.elim
  rename_i tt cs hst
  obtain ⟨_, arr, a1, a2, a3, a4⟩ := hI.obj id _ hst
  have honev : ∀ u ∈ (Builtin.zeroCells z.cells m).toList, u.oneCell' = true := by
    intro u hu'
    have hone' := mem_cells_one hzv hone
    simp only [Builtin.zeroCells, Array.toList_map, List.mem_map] at hu'
    obtain ⟨q, hq, rfl⟩ := hu'
    have hpos : 0 < z.cells.size := by
      rw [hzs]; rcases Nat.eq_zero_or_pos ie.size with h0 | h0
      · rw [h0] at hs0; simp at hs0
      · exact h0
    have hlt := Nat.mod_lt q hpos
    refine hone' _ ?_
    simp [hlt]
  have hst' := run_storeCells (P := P) tt (M.pos id) off (Builtin.zeroCells z.cells m).toList 0 arr w a1 honev (by rw [hcells, a2]; omega)
  refine ⟨_, _, ?_, hI.store (cs' := spliceL cs off (List.replicate (m * ie.size) .undef)) hst arr (splice arr off (Builtin.zeroCells z.cells m).toList) a1 (RepL.splice _ _ ⟨a2, a3⟩ off (by simpa using k1.1) ⟨by simp [Builtin.zeroCells, hzs], fun j => ?_⟩), k1.2⟩
  · obtain ⟨mm, e⟩ : ∃ mm, m = mm + 1 := ⟨m - 1, by omega⟩
    subst e
    simp only [Nat.add_zero] at hst'
    simp [Builtin.clear_, run_underlying hu, hzr, hst']
  · have : (List.replicate (m * ie.size) AV.undef).getD j .undef = .undef := by
      rw [List.getD_eq_getElem?_getD, List.getElem?_replicate]
      split <;> rfl
    rw [this]; exact .undef _

theorem iter_of {id : Nat} {m : Option Nat} {since : Nat} {seen : List Nat} {last : Nat} (hI : Inv B w0 M st w) (hs : st id = some (.iter m since seen last)) :
    M.O (M.pos id) = none ∧ w.heap[M.pos id]? = some (.mapIter (m.map M.pos) since seen.toArray last) ∧ ∀ i, m = some i → i < M.next := (hI.obj id _ hs).2
theorem sound_mrange (hI : Inv B w0 M st w) {t kt vt : TypeId} (hu : P.underlying t = some (.map kt vt)) {id : Nat} {mx : Value} (hm : RepV M (.map id) mx) (h : resK P (.mrange id) st K) :
    ∃ r w' M' v st', (Instr.range t mx).run P w = .ok r w' ∧ M.le M' ∧ Inv B w0 M' st' w' ∧ RepV M' v r ∧ K v st' := by
  unfold resK at h
  split at h
  all_goals first | (rename_i e; cases e; done) | skip
  rename_i e9
  injection e9 with e1
  subst e1
  split at h
  case h_2 => exact h.elim
  rename_i es clock hs
  obtain ⟨hO, arr, a1, a2, a3⟩ := map_of hI hs
  generalize hmm : mx = mm at hm
  cases hm with
  | map _ hid =>
  subst hmm
  have hrun : (Instr.range t (.map (some (M.pos id)))).run P w = .ok (.pointer (some ⟨w.heap.size, 0, none⟩)) (w.alloc (.mapIter (some (M.pos id)) clock #[] clock)) := by
    simp only [Instr.range, Sem.run_bind, run_underlying hu, Result.andThen_ok, MapKept.run_getObj_map a1, Sem.run_pure]
    rfl
  have hpos : (M.grow w.heap.size 0 0 #[]).pos id = M.pos id := by simp only [Mem.grow]; rw [if_neg (by omega)]
  obtain ⟨h1, h2⟩ := hI.layObj (.mapIter (some (M.pos id)) clock #[] clock) (.iter (some id) clock [] clock)
    ⟨(O_none' hI : M.O w.heap.size = none), by rw [heap_alloc, if_pos rfl, Option.map_some, hpos], fun i hi => by injection hi with hi; subst hi; simp [Mem.grow]; omega⟩
  refine ⟨_, _, _, _, _, hrun, h1, h2, ?_, h _ (st_next_none hI)⟩
  have := RepV.box (M := M.grow w.heap.size 0 0 #[]) M.next 0 (by simp [Mem.grow])
  simpa [Mem.grow] using this
theorem seen_same (seen : List Nat) (b : Nat) : seen.toArray.contains b = seen.contains b := by simp
theorem sound_mnext (hI : Inv B w0 M st w) {ty : TypeId} {id : Nat} {it : Value} (hm : RepV M (.box id 0) it) (h : resK P (.mnext id) st K) :
    ∃ r w' v st', (Instr.next it false ty).run P w = .ok r w' ∧ Inv B w0 M st' w' ∧ RepV M v r ∧ K v st' := by
  unfold resK at h
  split at h
  all_goals first | (rename_i e; cases e; done) | skip
  rename_i e9
  injection e9 with e1
  subst e1
  split at h
  case h_2 => exact h.elim
  rename_i m since seen last hs
  split at h
  case h_2 => exact h.elim
  rename_i es clock hms
  obtain ⟨c1, c2, c3, c4⟩ := h
  obtain ⟨hO, arr, a1, a2, a3⟩ := map_of hI hms
  obtain ⟨hiO, i1, i2⟩ := iter_of hI hs
  simp only [Option.map_some] at i1
  generalize hmm : it = mm at hm
  cases hm with
  | box _ _ hid =>
  subst hmm
  have hlt := (Array.getElem?_eq_some_iff.1 i1).1
  have pair : ∀ x ∈ arr.toList, ∃ e ∈ es, RepV M e.key x.key ∧ RepV M e.val x.val ∧ x.born = e.born := by
    intro x hx
    obtain ⟨j, hj, rfl⟩ := List.getElem_of_mem hx
    have hje : j < es.length := by omega
    exact ⟨es[j], List.getElem_mem hje, a3 j _ _ (List.getElem?_eq_getElem hje) (List.getElem?_eq_getElem hj)⟩
  have pair' : ∀ e ∈ es, ∃ x ∈ arr.toList, x.born = e.born := by
    intro e he
    obtain ⟨j, hj, rfl⟩ := List.getElem_of_mem he
    have hje : j < arr.toList.length := by omega
    exact ⟨arr.toList[j], List.getElem_mem hje, (a3 j _ _ (List.getElem?_eq_getElem hj) (List.getElem?_eq_getElem hje)).2.2⟩
  rcases run_next_at (P := P) w ty (M.pos id) (M.pos m) since last seen.toArray arr clock i1 a1 (fun x hx => by obtain ⟨e, he, _, _, hb⟩ := pair x hx; rw [hb]; exact c1 e he) c2 with ⟨hz, hrun⟩ | ⟨x, hx, w1, hw1, hrun⟩
  · refine ⟨_, w, .tup [.bool false], st, hrun, hI, .tup _ _ rfl (fun j => by rcases j with _ | j <;> simp <;> first | exact .bool _ | exact .undef _), c3 ?_⟩
    unfold leftA
    rw [List.filter_eq_nil_iff]
    intro e he hc
    obtain ⟨x, hx, hb⟩ := pair' e he
    have hz' := Array.eq_empty_of_size_eq_zero hz
    unfold leftOf at hz'
    rw [Array.filter_eq_empty_iff] at hz'
    have := hz' x (by simpa using hx)
    apply this
    rw [hb, seen_same]; exact hc
  · have hI1 : Inv B w0 M st w1 := by rcases hw1 with rfl | rfl; exact hI; exact hI.drew
    have hh1 : w1.heap = w.heap := by rcases hw1 with rfl | rfl <;> rfl
    unfold leftOf at hx
    simp only [Array.toList_filter, List.mem_filter] at hx
    obtain ⟨e, he, k1, k2, k3⟩ := pair x hx.1
    have hlft : e ∈ leftA es seen := by
      unfold leftA
      rw [List.mem_filter]
      refine ⟨he, ?_⟩
      have := hx.2
      rwa [k3, seen_same] at this
    refine ⟨_, _, .tup [.bool true, e.key, e.val], _, hrun, ?_, .tup _ _ rfl (fun j => by rcases j with _ | _ | _ | j <;> simp <;> first | exact .bool _ | exact k1 | exact k2 | exact .undef _), c4 e hlft⟩
    refine hI1.turnObj (ao' := .iter (some m) since (seen ++ [e.born]) clock) hs _ (.mapIter (some (M.pos m)) since (seen.toArray.push x.born) clock) (by rw [hh1]; exact i1) rfl hiO ⟨hiO, ?_, i2⟩
    rw [World.putObj_heap_same (by rw [hh1]; exact hlt), k3]
    simp
theorem sound_mentry (hI : Inv B w0 M st w) {id : Nat} {it : Value} (hm : RepV M (.box id 0) it) (h : resK P (.mentry id) st K) :
    ∃ r v, (Instr.entry it).run P w = .ok r w ∧ RepV M v r ∧ K v st := by
  unfold resK at h
  split at h
  all_goals first | (rename_i e; cases e; done) | skip
  rename_i e9
  injection e9 with e1
  subst e1
  split at h
  case h_2 => exact h.elim
  rename_i m since seen last hs
  split at h
  case h_2 => exact h.elim
  rename_i es clock hms
  obtain ⟨rfl, c2, e, seen', c3, rfl, c4⟩ := h
  obtain ⟨hO, arr, a1, a2, a3⟩ := map_of hI hms
  obtain ⟨hiO, i1, i2⟩ := iter_of hI hs
  simp only [Option.map_some] at i1
  generalize hmm : it = mm at hm
  cases hm with
  | box _ _ hid =>
  subst hmm
  obtain ⟨j, hj, rfl⟩ := List.getElem_of_mem c3
  have hja : j < arr.toList.length := by omega
  have hr := a3 j _ _ (List.getElem?_eq_getElem hj) (List.getElem?_eq_getElem hja)
  have hb : arr.toList.map (·.born) = es.map (·.born) := by
    apply List.ext_getElem?
    intro i
    simp only [List.getElem?_map]
    by_cases hi : i < es.length
    · rw [List.getElem?_eq_getElem hi, List.getElem?_eq_getElem (by omega : i < arr.toList.length)]
      simp only [Option.map_some]
      rw [(a3 i _ _ (List.getElem?_eq_getElem hi) (List.getElem?_eq_getElem (by omega))).2.2]
    · rw [List.getElem?_eq_none (l := arr.toList) (by omega), List.getElem?_eq_none (l := es) (by omega)]; rfl
  have hrun := run_entry_at (P := P) w (M.pos id) (M.pos m) since seen'.toArray arr clock (arr.toList[j]) (by rw [i1, hr.2.2]; simp) a1 (List.getElem_mem hja) (by rw [hb]; exact c2)
  exact ⟨_, .tup [es[j].key, es[j].val], hrun, .tup _ _ rfl (fun j => by rcases j with _ | _ | j <;> simp <;> first | exact hr.1 | exact hr.2.1 | exact .undef _), c4⟩
end
end Go.Sh
