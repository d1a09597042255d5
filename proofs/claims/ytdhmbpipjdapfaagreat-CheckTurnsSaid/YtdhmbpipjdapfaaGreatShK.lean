/- Shadow logic, part K: all operations together. -/
import Derived.Test.YtdhmbpipjdapfaaGreatShJ
namespace Go.Sh
open Go.RowKit
section
variable {P : Program} {B n : Nat} {w0 w : World} {M : Mem} {st : St} {K : AV → St → Prop} {env : Env} {a : Act}

theorem sound_fieldAddr {s : TypeId} {x : AV} {u : Value} (hx : RepV M x u) {i fi : TI} (hs : tiOf P s = some i) {fs : List (Nat × TypeId)} (hk : i.k = .struct fs) {f off ft : Nat} (hf : fs[f]? = some (off, ft)) (hft : tiOf P ft = some fi)
    (h0 : fi.size ≠ 0) (h : resK P (match (generalizing := false) x with
            | .eptr cs => .val (.eptr (cs.drop off))
            | .box id o => .val (.box id (o + off))
            | _ => .stuck) st K) : ∃ r z, (Instr.fieldAt s u f).run P w = .ok r w ∧ RepV M z r ∧ K z st := by
  obtain ⟨d, inf, z0, h1, h2, h3, h4, h5, h6, h7⟩ := tiOf_some hs
  rw [hk] at h4
  cases d <;> simp [tkOf] at h4
  rename_i fields
  have hfield : ∃ fl, fields[f]? = some fl ∧ fl.offset = off ∧ fl.type = ft := by
    rw [← h4] at hf
    simp only [List.getElem?_map, Array.getElem?_toList] at hf
    cases hff : fields[f]? with
    | none => simp [hff] at hf
    | some fl => simp [hff] at hf; exact ⟨fl, rfl, hf.1, hf.2⟩
  obtain ⟨fl, hfl, rfl, rfl⟩ := hfield
  have hpl : ∀ ad : Addr, (fieldPlace ad fl).run P w = .ok (ad.add fl.offset) w := by
    intro ad
    simp [fieldPlace, run_sizeOf' hft, h0]
  cases hx
  case eptr cs ad g hF hg =>
    refine ⟨_, _, by simp [Instr.fieldAt, run_underlying h1, hfl, Instr.sureAddr, hpl] <;> rfl, ?_, h⟩
    refine .eptr _ _ (fun j => g (fl.offset + j)) (fun j hj => ?_) (fun j => by rw [getD_drop]; exact hg _)
    have : (ad.add fl.offset).add j = ad.add (fl.offset + j) := by
      unfold Addr.add
      by_cases c1 : fl.offset = 0
      · simp [c1]
      · by_cases c2 : j = 0
        · simp [c2, c1]
        · simp [c1, c2, Nat.add_assoc]
    rw [this]
    exact hF _ (by simp at hj; omega)
  case box id o hid =>
    refine ⟨_, _, by simp [Instr.fieldAt, run_underlying h1, hfl, Instr.sureAddr, hpl] <;> rfl, ?_, h⟩
    rw [addr_add]
    exact .box id _ hid
  all_goals exact h.elim

theorem sound_field {s : TypeId} {x : AV} {u : Value} (hx : RepV M x u) {i fi : TI} (hs : tiOf P s = some i) {fs : List (Nat × TypeId)} (hk : i.k = .struct fs) {f off ft : Nat} (hf : fs[f]? = some (off, ft)) (hft : tiOf P ft = some fi)
    (h : resK P (match (generalizing := false) x with
          | .agg cs => if fi.k.agg then (if off + fi.size ≤ cs.length then .val (.agg ((cs.drop off).take fi.size)) else .stuck) else
              (if off < cs.length then .val (cs.getD off .undef) else .stuck)
          | _ => .stuck) st K) : ∃ r z, (Instr.field s u f).run P w = .ok r w ∧ RepV M z r ∧ K z st := by
  obtain ⟨d, inf, z0, h1, h2, h3, h4, h5, h6, h7⟩ := tiOf_some hs
  rw [hk] at h4
  cases d <;> simp [tkOf] at h4
  rename_i fields
  have hfield : ∃ fl, fields[f]? = some fl ∧ fl.offset = off ∧ fl.type = ft := by
    rw [← h4] at hf
    simp only [List.getElem?_map, Array.getElem?_toList] at hf
    cases hff : fields[f]? with
    | none => simp [hff] at hf
    | some fl => simp [hff] at hf; exact ⟨fl, rfl, hf.1, hf.2⟩
  obtain ⟨fl, hfl, rfl, rfl⟩ := hfield
  cases hx
  case agg cs vs hsz hr =>
    cases hag : fi.k.agg with
    | true =>
      simp only [hag, if_true] at h
      by_cases hc : fl.offset + fi.size ≤ cs.length
      · rw [if_pos hc] at h
        have := (RepL.extract (M := M) ⟨hsz, hr⟩ fl.offset fi.size)
        exact ⟨_, _, by simp [Instr.field, run_underlying h1, hfl, asAgg, part, run_isAgg' hft, hag, run_sizeOf' hft] <;> rfl, .agg _ _ this.1 this.2, h⟩
      · rw [if_neg hc] at h; exact h.elim
    | false =>
      simp only [hag, Bool.false_eq_true, if_false] at h
      by_cases hc : fl.offset < cs.length
      · rw [if_pos hc] at h
        have hv : fl.offset < vs.size := by omega
        have := hr fl.offset
        rw [Array.getD_eq_getD_getElem?, Array.getElem?_eq_getElem hv, Option.getD_some] at this
        exact ⟨_, _, by simp [Instr.field, run_underlying h1, hfl, asAgg, part, run_isAgg' hft, hag, hv] <;> rfl, this, h⟩
      · rw [if_neg hc] at h; exact h.elim
  all_goals exact h.elim

theorem sound_indexAddr {t : TypeId} {x ix : AV} {u v : Value} (hx : RepV M x u) (hv : RepV M ix v)
    (h : resK P (match (generalizing := false) tiOf P t, ix with
    | some i, .int _ n => match (generalizing := false) i.k, x with
      | .slice e, .list sz xs _ => match (generalizing := false) tiOf P e with
        | some ie => if 0 ≤ n ∧ n < xs.length ∧ ie.size = sz then .val (.eptr (xs.getD n.toNat [])) else .stuck
        | none => .stuck
      | .slice e, .rowp id off sz m _ => match (generalizing := false) tiOf P e with
        | some ie => if 0 ≤ n ∧ n < m ∧ ie.size = sz then .val (.box id (off + n.toNat * sz)) else .stuck
        | none => .stuck
      | .array len e, .box id off => match tiOf P e with
        | some ie => if 0 ≤ n ∧ n < len then .val (.box id (off + n.toNat * ie.size)) else .stuck
        | none => .stuck
      | .array len e, .eptr cs => match tiOf P e with
        | some ie => if 0 ≤ n ∧ n < len then .val (.eptr (cs.drop (n.toNat * ie.size))) else .stuck
        | none => .stuck
      | _, _ => .stuck
    | _, _ => .stuck) st K) : ∃ r z, (Instr.indexAt t u v).run P w = .ok r w ∧ RepV M z r ∧ K z st := by
  cases ht : tiOf P t with
  | none => simp only [ht] at h; exact h.elim
  | some i =>
    simp only [ht] at h
    cases hv
    case int k m =>
      simp only at h
      obtain ⟨d, inf, z0, h1, h2, h3, h4, h5, h6, h7⟩ := tiOf_some ht
      cases hk : i.k <;> simp only [hk] at h <;> try exact h.elim
      case slice e =>
        rw [hk] at h4
        cases d <;> simp [tkOf] at h4
        rw [h4] at h1
        cases hx <;> simp only at h <;> try exact h.elim
        case nils sz o ho =>
          cases he : tiOf P e with
          | none => simp only [he] at h; exact h.elim
          | some ie =>
            simp only [he] at h
            by_cases hc : 0 ≤ m ∧ m < ([] : List (List AV)).length ∧ ie.size = sz
            · have := hc.2.1; have := hc.1; simp at *; omega
            · rw [if_neg hc] at h; exact h.elim
        case rowp0 id off sz b =>
          cases he : tiOf P e with
          | none => simp only [he] at h; exact h.elim
          | some ie =>
            simp only [he] at h
            rw [if_neg (by omega)] at h; exact h.elim
        case rowp id off sz len cap hid hlc hcm =>
          cases he : tiOf P e with
          | none => simp only [he] at h; exact h.elim
          | some ie =>
            simp only [he] at h
            by_cases hcc : 0 ≤ m ∧ m < len ∧ ie.size = sz
            · rw [if_pos hcc] at h
              obtain ⟨c1, c2, c3⟩ := hcc
              subst c3
              refine ⟨_, _, by simp [Instr.indexAt, asIntOf, run_underlying h1, c1, c2, run_sizeOf' he] <;> rfl, ?_, h⟩
              rw [addr_add]
              exact .box id _ hid
            · rw [if_neg hcc] at h; exact h.elim
        case list sz xs o ad cap g hF hg hl hc hm hoo =>
          cases he : tiOf P e with
          | none => simp only [he] at h; exact h.elim
          | some ie =>
            simp only [he] at h
            by_cases hcc : 0 ≤ m ∧ m < xs.length ∧ ie.size = sz
            · rw [if_pos hcc] at h
              obtain ⟨c1, c2, c3⟩ := hcc
              subst c3
              refine ⟨_, _, by simp [Instr.indexAt, asIntOf, run_underlying h1, c1, c2, run_sizeOf' he] <;> rfl, ?_, h⟩
              have hmi : m.toNat < xs.length := by omega
              refine .eptr _ _ (fun j => g m.toNat j) (fun j hj => ?_) (fun j => hg _ _)
              rw [hl _ hmi] at hj
              have := hF m.toNat j hmi hj
              have e2 : (ad.add (m.toNat * ie.size)).add j = ad.add (m.toNat * ie.size + j) := by
                unfold Addr.add
                by_cases c1 : m.toNat * ie.size = 0
                · simp [c1]
                · by_cases c2 : j = 0
                  · simp [c2, c1]
                  · simp only [c1, c2, if_false]; rw [if_neg (by omega), Nat.add_assoc]
              rw [e2]; exact this
            · rw [if_neg hcc] at h; exact h.elim
      case array len e =>
        rw [hk] at h4
        cases d <;> simp [tkOf] at h4
        rw [h4.1, h4.2] at h1
        cases hx <;> simp only at h <;> try exact h.elim
        case box id off hid =>
          cases he : tiOf P e with
          | none => simp only [he] at h; exact h.elim
          | some ie =>
            simp only [he] at h
            by_cases hcc : 0 ≤ m ∧ m < len
            · rw [if_pos hcc] at h
              obtain ⟨c1, c2⟩ := hcc
              refine ⟨_, _, by simp [Instr.indexAt, asIntOf, run_underlying h1, Instr.sureAddr, c1, c2, run_sizeOf' he] <;> rfl, ?_, h⟩
              rw [addr_add]
              exact .box id _ hid
            · rw [if_neg hcc] at h; exact h.elim
        case eptr cs ad g hF hg =>
          cases he : tiOf P e with
          | none => simp only [he] at h; exact h.elim
          | some ie =>
            simp only [he] at h
            by_cases hcc : 0 ≤ m ∧ m < len
            · rw [if_pos hcc] at h
              obtain ⟨c1, c2⟩ := hcc
              refine ⟨_, _, by simp [Instr.indexAt, asIntOf, run_underlying h1, Instr.sureAddr, c1, c2, run_sizeOf' he] <;> rfl, ?_, h⟩
              refine .eptr _ _ (fun j => g (m.toNat * ie.size + j)) (fun j hj => ?_) (fun j => by rw [getD_drop]; exact hg _)
              have e2 : (ad.add (m.toNat * ie.size)).add j = ad.add (m.toNat * ie.size + j) := by
                unfold Addr.add
                by_cases c1 : m.toNat * ie.size = 0
                · simp [c1]
                · by_cases c2 : j = 0
                  · simp [c2, c1]
                  · simp only [c1, c2, if_false]; rw [if_neg (by omega), Nat.add_assoc]
              rw [e2]
              exact hF _ (by simp at hj; omega)
            · rw [if_neg hcc] at h; exact h.elim
    all_goals exact h.elim


def BndAt (v : Option Value) (dflt n : Int) : Prop := (v = none ∧ n = dflt) ∨ ∃ k, v = some (.int k n)
theorem bndAt_of (hE : RepE M n env a) (x : Option Operand) (dflt : Int) {m : Int} {k : IntKind} (h : (match x with | some y => env.op y | none => .int .i64 dflt) = AV.int k m) : BndAt (x.map a.eval) dflt m := by
  cases x with
  | none => simp at h; exact .inl ⟨rfl, h.2.symm⟩
  | some y =>
    simp only at h
    have := hE.op y
    rw [h] at this
    refine .inr ⟨k, ?_⟩
    simp only [Option.map_some]
    generalize a.eval y = z at *
    cases this
    rfl
theorem run_bnd {v : Value} {k : IntKind} {m : Int} (hv : v = .int k m) (y : Nat) (code : BoundsCode) (h0 : 0 ≤ m) (h1 : m ≤ y) : (Instr.sliceBound v y code).run P w = .ok m.toNat w := by
  subst hv
  simp [Instr.sliceBound, asIntOf, h0, h1]
theorem run_bounds2 (isS : Bool) (len cap : Nat) (lo hi : Option Value) {l h : Int} (hl : BndAt lo 0 l) (hh : BndAt hi len h) (h0 : 0 ≤ l) (h1 : l ≤ h) (h2 : h ≤ cap) (hc : len ≤ cap) :
    (Instr.sliceBounds isS len cap lo hi none).run P w = .ok (l.toNat, h.toNat, cap) w := by
  unfold Instr.sliceBounds
  rcases hh with ⟨rfl, rfl⟩ | ⟨kh, rfl⟩ <;> rcases hl with ⟨rfl, rfl⟩ | ⟨kl, rfl⟩
  · simp
  · simp [run_bnd (P := P) (w := w) (k := kl) (m := l) rfl len _ h0 h1]
  · simp [run_bnd (P := P) (w := w) (k := kh) (m := h) rfl cap _ (by omega) (by omega)]
  · simp [run_bnd (P := P) (w := w) (k := kh) (m := h) rfl cap _ (by omega) (by omega), run_bnd (P := P) (w := w) (k := kl) (m := l) rfl h.toNat _ h0 (by omega)]
theorem run_bounds3 (len cap : Nat) (lo hi mx : Option Value) {l h : Int} (hl : BndAt lo 0 l) (hh : ∃ k, hi = some (.int k h)) (hm : ∃ k, mx = some (.int k h)) (h0 : 0 ≤ l) (h1 : l ≤ h) (h2 : h ≤ len) (hc : len ≤ cap) :
    (Instr.sliceBounds true len cap lo hi mx).run P w = .ok (l.toNat, h.toNat, h.toNat) w := by
  unfold Instr.sliceBounds
  obtain ⟨kh, rfl⟩ := hh
  obtain ⟨km, rfl⟩ := hm
  rcases hl with ⟨rfl, rfl⟩ | ⟨kl, rfl⟩
  · simp [run_bnd (P := P) (w := w) (k := km) (m := h) rfl cap _ (by omega) (by omega), run_bnd (P := P) (w := w) (k := kh) (m := h) rfl h.toNat _ (by omega) (by omega)]
  · simp [run_bnd (P := P) (w := w) (k := km) (m := h) rfl cap _ (by omega) (by omega), run_bnd (P := P) (w := w) (k := kh) (m := h) rfl h.toNat _ (by omega) (by omega), run_bnd (P := P) (w := w) (k := kl) (m := l) rfl h.toNat _ h0 (by omega)]

theorem run_bounds3' (len cap : Nat) (lo hi mx : Option Value) {l h m : Int} (hl : BndAt lo 0 l) (hh : ∃ k, hi = some (.int k h)) (hm : ∃ k, mx = some (.int k m)) (h0 : 0 ≤ l) (h1 : l ≤ h) (h2 : h ≤ m) (h3 : m ≤ cap) :
    (Instr.sliceBounds true len cap lo hi mx).run P w = .ok (l.toNat, h.toNat, m.toNat) w := by
  unfold Instr.sliceBounds
  obtain ⟨kh, rfl⟩ := hh
  obtain ⟨km, rfl⟩ := hm
  rcases hl with ⟨rfl, rfl⟩ | ⟨kl, rfl⟩
  · simp [run_bnd (P := P) (w := w) (k := km) (m := m) rfl cap _ (by omega) (by omega), run_bnd (P := P) (w := w) (k := kh) (m := h) rfl m.toNat _ (by omega) (by omega)]
  · simp [run_bnd (P := P) (w := w) (k := km) (m := m) rfl cap _ (by omega) (by omega), run_bnd (P := P) (w := w) (k := kh) (m := h) rfl m.toNat _ (by omega) (by omega), run_bnd (P := P) (w := w) (k := kl) (m := l) rfl h.toNat _ h0 (by omega)]

/-- A part of a row. -/
theorem rep_part {sz : Nat} {xs : List (List AV)} {o o' : Own} {base : Option Addr} {cap l h c : Nat} (hv : RepV M (.list sz xs o) (.slice base xs.length cap)) (h1 : l ≤ h) (h2 : h ≤ xs.length)
    (hc : h ≤ c) (hcc : c ≤ cap) (ho : ∀ ad, OwnOk M ad xs.length cap o → OwnOk M (ad.add (l * sz)) (h - l) (c - l) o') (ho' : ∀ id, o' ≠ .op id) :
    RepV M (.list sz ((xs.take h).drop l) o') (.slice (if c = l then base else base.map (·.add (l * sz))) (h - l) (c - l)) := by
  have hlen : ((xs.take h).drop l).length = h - l := by simp; omega
  have hget : ∀ i, i < h - l → ((xs.take h).drop l).getD i [] = xs.getD (l + i) [] := by
    intro i hi
    rw [List.getD_eq_getElem?_getD, List.getElem?_drop, List.getElem?_take, if_pos (by omega), List.getD_eq_getElem?_getD]
  rcases rep_open hv with ⟨rfl, rfl, rfl, _⟩ | ⟨ad, g, rfl, hF, hg, hcl, hm, hoo⟩
  · have : c = 0 := by omega
    subst this
    simp at h2
    subst h2
    have : l = 0 := by omega
    subst this
    simpa using RepV.nils (M := M) sz o' ho'
  · have hl : ∀ i, i < xs.length → (xs.getD i []).length = sz := by
      generalize hvv : Value.slice (some ad) xs.length cap = vv at hv
      cases hv with
      | nils _ _ _ => cases hvv
      | list _ _ _ _ _ _ _ _ hl _ _ _ => exact hl
    by_cases hcl0 : c = l
    · subst hcl0
      have he : h - c = 0 := by omega
      rw [if_pos rfl]
      have hn : (xs.take h).drop c = [] := List.length_eq_zero_iff.1 (by omega)
      rw [hn]
      have := RepV.list (M := M) sz [] o' ad (c - c) (fun _ _ => Go.undef) (fun i j hi => by simp at hi) (fun i j => .undef _) (fun i hi => by simp at hi) (by simp) (by unfold maxLen; omega)
        (by
          have := ho ad hoo
          cases o' with
          | no => trivial
          | clip => simp only [OwnOk] at this ⊢; simp
          | op id => exact absurd rfl (ho' id))
      simpa [he] using this
    · rw [if_neg hcl0]
      simp only [Option.map_some]
      have := RepV.list (M := M) sz ((xs.take h).drop l) o' (ad.add (l * sz)) (c - l) (fun i j => g (l + i) j)
        (fun i j hi hj => by
          rw [hlen] at hi
          have e2 : (ad.add (l * sz)).add (i * sz + j) = ad.add ((l + i) * sz + j) := by
            rw [Nat.add_mul, Nat.add_assoc]
            unfold Addr.add
            by_cases c1 : l * sz = 0
            · simp [c1]
            · by_cases c2 : i * sz + j = 0
              · simp [c2, c1]
              · simp only [c1, c2, if_false]; rw [if_neg (by omega), Nat.add_assoc]
          rw [e2]
          exact hF (l + i) j (by omega) hj)
        (fun i j => by
          by_cases hi : i < h - l
          · rw [hget i hi]; exact hg _ _
          · have : ((xs.take h).drop l).getD i [] = [] := by rw [List.getD_eq_getElem?_getD, List.getElem?_eq_none (by omega)]; rfl
            rw [this]; exact .undef _)
        (fun i hi => by rw [hlen] at hi; rw [hget i hi]; exact hl _ (by omega))
        (by omega) (by omega) (by rw [hlen]; exact ho ad hoo)
      rwa [hlen] at this

theorem sound_slice {t : TypeId} {x : AV} {u : Value} (hx : RepV M x u) (hE : RepE M n env a) (lo hi mx : Option Operand) {i : TI} (ht : tiOf P t = some i)
    (h : resK P (match (generalizing := false) i.k, x with
      | .slice e, .list sz xs o => match (generalizing := false) tiOf P e with
        | some ie =>
          let l : AV := match lo with | some a => env.op a | none => .int .i64 0
          let h : AV := match hi with | some a => env.op a | none => .int .i64 xs.length
          let mv : AV := match mx with | some m => env.op m | none => .undef
          match l, h, mx, mv with
          | .int _ l, .int _ h, none, _ => if 0 ≤ l ∧ l ≤ h ∧ h ≤ xs.length ∧ (xs = [] ∨ ie.size = sz) then .val (.list sz ((xs.take h.toNat).drop l.toNat) (if h = xs.length ∧ o = .clip then .clip else .no)) else .stuck
          | .int _ l, .int _ h, some _, .int _ m => if 0 ≤ l ∧ l ≤ h ∧ h = m ∧ h ≤ xs.length ∧ (xs = [] ∨ ie.size = sz) ∧ hi.isSome then .val (.list sz ((xs.take h.toNat).drop l.toNat) .clip) else .stuck
          | _, _, _, _ => .stuck
        | none => .stuck
      | .slice e, .rowp id off sz n c => match (generalizing := false) tiOf P e with
        | some ie =>
          let l : AV := match lo with | some a => env.op a | none => .int .i64 0
          let h : AV := match hi with | some a => env.op a | none => .int .i64 n
          let mv : AV := match mx with | some m => env.op m | none => .int .i64 c
          match l, h, mv with
          | .int _ l, .int _ h, .int _ m => if 0 ≤ l ∧ l ≤ h ∧ h ≤ m ∧ m ≤ c ∧ ie.size = sz ∧ (mx.isSome → hi.isSome) then .val (.rowp id (if m = l then off else off + l.toNat * sz) sz (h - l).toNat (m - l).toNat) else .stuck
          | _, _, _ => .stuck
        | none => .stuck
      | .string, .str s => match mx with
        | some _ => .stuck
        | none =>
          let l : AV := match lo with | some a => env.op a | none => .int .i64 0
          let h : AV := match hi with | some a => env.op a | none => .int .i64 s.size
          match l, h with
          | .int _ l, .int _ h => if 0 ≤ l ∧ l ≤ h ∧ h ≤ s.size then .val (.str (s.extract l.toNat h.toNat)) else .stuck
          | _, _ => .stuck
      | _, _ => .stuck) st K) : ∃ r z, (Instr.sliceAt t u (lo.map a.eval) (hi.map a.eval) (mx.map a.eval)).run P w = .ok r w ∧ RepV M z r ∧ K z st := by
  obtain ⟨d, inf, z0, h1, h2, h3, h4, h5, h6, h7⟩ := tiOf_some ht
  cases hk : i.k <;> simp only [hk] at h <;> try exact h.elim
  case string =>
    rw [hk] at h4
    cases d <;> simp [tkOf] at h4
    cases hx <;> simp only at h <;> try exact h.elim
    case str s =>
      cases mx with
      | some m => exact h.elim
      | none =>
        simp only at h
        generalize hl : (match lo with | some a => env.op a | none => AV.int .i64 0) = L at h
        generalize hh : (match hi with | some a => env.op a | none => AV.int .i64 s.size) = H at h
        cases L <;> (try simp only at h) <;> (try exact h.elim)
        cases H <;> (try simp only at h) <;> (try exact h.elim)
        rename_i kl l kh hv
        by_cases hc : 0 ≤ l ∧ l ≤ hv ∧ hv ≤ s.size
        · rw [if_pos hc] at h
          have hb := run_bounds2 (P := P) (w := w) false s.size s.size _ _ (bndAt_of hE lo 0 hl) (bndAt_of hE hi s.size hh) hc.1 hc.2.1 hc.2.2 (Nat.le_refl _)
          refine ⟨_, _, ?_, .str _, h⟩
          simp [Instr.sliceAt, Instr.slice, run_underlying h1, hb]
        · rw [if_neg hc] at h; exact h.elim
  case slice e =>
    rw [hk] at h4
    cases d <;> simp [tkOf] at h4
    rw [h4] at h1
    cases x <;> simp only at h <;> try exact h.elim
    case rowp id off sz len cap =>
      cases he : tiOf P e with
      | none => simp only [he] at h; exact h.elim
      | some ie =>
        simp only [he] at h
        generalize hl : (match lo with | some a => env.op a | none => AV.int .i64 0) = L at h
        generalize hh : (match hi with | some a => env.op a | none => AV.int .i64 len) = H at h
        generalize hm : (match mx with | some a => env.op a | none => AV.int .i64 cap) = X at h
        cases L <;> (try simp only at h) <;> (try exact h.elim)
        cases H <;> (try simp only at h) <;> (try exact h.elim)
        cases X <;> (try simp only at h) <;> (try exact h.elim)
        rename_i kl l kh hv km m
        by_cases hc : 0 ≤ l ∧ l ≤ hv ∧ hv ≤ m ∧ m ≤ cap ∧ ie.size = sz ∧ (mx.isSome = true → hi.isSome = true)
        · rw [if_pos hc] at h
          obtain ⟨c1, c2, c3, c4, c5, c6⟩ := hc
          subst c5
          generalize hu : u = uu at hx
          have hlc : len ≤ cap := by
            cases hx with
            | rowp _ _ _ _ _ _ h _ => exact h
            | rowp0 => exact Nat.le_refl _
          have hb : (Instr.sliceBounds true len cap (lo.map a.eval) (hi.map a.eval) (mx.map a.eval)).run P w = .ok (l.toNat, hv.toNat, m.toNat) w := by
            cases mx with
            | none =>
              simp only [AV.int.injEq] at hm
              have := run_bounds2 (P := P) (w := w) true len cap _ _ (bndAt_of hE lo 0 hl) (bndAt_of hE hi len hh) c1 c2 (by omega) hlc
              rw [show m.toNat = cap by omega]
              exact this
            | some mo =>
              simp only at hm
              obtain ⟨hop, rfl⟩ := Option.isSome_iff_exists.1 (c6 rfl)
              simp only at hh
              have hhr := hE.op hop
              rw [hh] at hhr
              have hmr := hE.op mo
              rw [hm] at hmr
              exact run_bounds3' (P := P) (w := w) len cap (lo.map a.eval) (some (a.eval hop)) (some (a.eval mo)) (bndAt_of hE lo 0 hl)
                ⟨kh, by generalize a.eval hop = z at hhr; cases hhr; rfl⟩ ⟨km, by generalize a.eval mo = z at hmr; cases hmr; rfl⟩ c1 c2 c3 c4
          cases hx with
          | rowp0 _ _ _ b =>
            subst hu
            have e1 : l = 0 := by omega
            have e2 : hv = 0 := by omega
            have e3 : m = 0 := by omega
            subst e1 e2 e3
            refine ⟨.slice b 0 0, _, ?_, .rowp0 id _ _ b, h⟩
            simp at hb
            simp [Instr.sliceAt, Instr.slice, run_underlying h1, hb, run_sizeOf' he]
          | rowp _ _ _ _ _ hid hlc hcm =>
          subst hu
          refine ⟨.slice (some ⟨M.pos id, if m = l then off else off + l.toNat * ie.size, none⟩) (hv - l).toNat (m - l).toNat, _, ?_, .rowp id _ _ _ _ hid (by omega) (by omega), h⟩
          have e1 : hv.toNat - l.toNat = (hv - l).toNat := by omega
          have e2 : m.toNat - l.toNat = (m - l).toNat := by omega
          by_cases hml : m = l
          · simp [Instr.sliceAt, Instr.slice, run_underlying h1, hb, run_sizeOf' he, hml, ← e1]
          · have : ¬ m.toNat = l.toNat := by omega
            simp [Instr.sliceAt, Instr.slice, run_underlying h1, hb, run_sizeOf' he, hml, this, e1, e2, addr_add]
        · rw [if_neg hc] at h; exact h.elim
    rename_i sz xs o
    cases he : tiOf P e with
    | none => simp only [he] at h; exact h.elim
    | some ie =>
      simp only [he] at h
      have hsh : ∃ base cap, u = .slice base xs.length cap ∧ xs.length ≤ cap := by
        cases hx with
        | nils _ _ _ => exact ⟨none, 0, rfl, by simp⟩
        | list _ _ _ ad cap g hF hg hl hc hm hoo => exact ⟨_, cap, rfl, hc⟩
      obtain ⟨base, cap, rfl, hxc⟩ := hsh
      generalize hl : (match lo with | some a => env.op a | none => AV.int .i64 0) = L at h
      generalize hh : (match hi with | some a => env.op a | none => AV.int .i64 xs.length) = H at h
      cases L <;> (try simp only at h) <;> (try exact h.elim)
      cases H <;> (try simp only at h) <;> (try exact h.elim)
      rename_i kl l kh hv
      cases mx with
      | none =>
        simp only at h
        by_cases hc : 0 ≤ l ∧ l ≤ hv ∧ hv ≤ xs.length ∧ (xs = [] ∨ ie.size = sz)
        · rw [if_pos hc] at h
          have hb := run_bounds2 (P := P) (w := w) true xs.length cap _ _ (bndAt_of hE lo 0 hl) (bndAt_of hE hi xs.length hh) hc.1 hc.2.1 (by omega) hxc
          refine ⟨_, _, by simp [Instr.sliceAt, Instr.slice, run_underlying h1, hb, run_sizeOf' he] <;> rfl, ?_, h⟩
          have hpart := rep_part (l := l.toNat) (h := hv.toNat) (c := cap) (o' := if hv = xs.length ∧ o = .clip then .clip else .no) hx (by omega) (by omega) (by omega) (Nat.le_refl _)
            (fun ad hoo => by
              split
              · rename_i hcl; rw [hcl.2] at hoo; simp only [OwnOk] at hoo ⊢; omega
              · trivial)
            (fun id e => by split at e <;> cases e)
          rcases hc.2.2.2 with rfl | hs
          · rcases rep_open hx with ⟨rfl, _, rfl, _⟩ | ⟨ad, g, rfl, _⟩
            · simpa using hpart
            · have l0 : l.toNat = 0 := by have := hc.2.1; have := hc.2.2.1; simp at this; omega
              rw [l0] at hpart ⊢
              simpa using hpart
          · rw [hs]; exact hpart
        · rw [if_neg hc] at h; exact h.elim
      | some m =>
        simp only at h
        have hmr := hE.op m
        cases hmv : env.op m <;> simp only [hmv] at h <;> try exact h.elim
        rename_i km mv
        rw [hmv] at hmr
        by_cases hc : 0 ≤ l ∧ l ≤ hv ∧ hv = mv ∧ hv ≤ xs.length ∧ (xs = [] ∨ ie.size = sz) ∧ hi.isSome
        · rw [if_pos hc] at h
          obtain ⟨c1, c2, c3, c4, c5, c6⟩ := hc
          subst c3
          obtain ⟨hop, rfl⟩ := Option.isSome_iff_exists.1 c6
          simp only at hh
          have hhr := hE.op hop
          rw [hh] at hhr
          have hb := run_bounds3 (P := P) (w := w) xs.length cap (lo.map a.eval) (some (a.eval hop)) (some (a.eval m)) (l := l) (h := hv) (bndAt_of hE lo 0 hl)
            ⟨kh, by generalize a.eval hop = z at hhr; cases hhr; rfl⟩ ⟨km, by generalize a.eval m = z at hmr; cases hmr; rfl⟩ c1 c2 c4 hxc
          refine ⟨_, _, by simp [Instr.sliceAt, Instr.slice, run_underlying h1, hb, run_sizeOf' he] <;> rfl, ?_, h⟩
          have hpart := rep_part (l := l.toNat) (h := hv.toNat) (c := hv.toNat) (o' := .clip) hx (by omega) (by omega) (by omega) (by omega)
            (fun ad hoo => rfl) (fun id e => by cases e)
          rcases c5 with rfl | hs
          · have h0 : hv.toNat = 0 := by simp at c4; omega
            have l0 : l.toNat = 0 := by omega
            rw [l0, h0] at hpart ⊢
            simpa using hpart
          · rw [hs]; exact hpart
        · rw [if_neg hc] at h; exact h.elim
end
end Go.Sh
