/- Shadow logic, part P: regions. -/
import Derived.Test.YtdhmbpipjdapfaaGreatShO
namespace Go.Sh
open Go.RowKit
section
variable {P : Program}

theorem Owns.fresh' {st0 st : St} {e sz n : Nat} {o : Own} (h : Owns st0 e sz n o st) (hf : Fresh st0) : Fresh st := by
  cases o with
  | no => exact h.elim
  | clip => simp only [Owns] at h; subst h; exact hf
  | op id => obtain ⟨_, h2⟩ := h; subst h2; exact hf.upd _ _
theorem resKP_monoF {rv : AV} {r : ORes} {st : St} {K K' : AV → St → Prop} (hf : Fresh st) (h : ∀ v st', Fresh st' → K v st' → K' v st') (hr : resKP P rv r st K) : resKP P rv r st K' := by
  cases r with
  | val v => exact h _ _ hf hr
  | load id off n ag => obtain ⟨t, cs, h1, h2, h3⟩ := (load_iff (P := P) (rv := rv)).1 hr; exact load_iff.2 ⟨t, cs, h1, h2, h _ _ hf h3⟩
  | store id off vs => obtain ⟨t, cs, h1, h2, h3⟩ := (store_iff (P := P) (rv := rv)).1 hr; exact store_iff.2 ⟨t, cs, h1, h2, h _ _ (hf.upd _ _) h3⟩
  | new t cs => exact fun id hid => h _ _ (hf.upd _ _) (hr id hid)
  | lit sz xs => exact h _ _ hf hr
  | app e sz by_ xs ys o => obtain ⟨st0, h1, h2⟩ := hr; exact ⟨st0, h1, fun o' st' ho => h _ _ (ho.fresh' (h1.fresh hf)) (h2 o' st' ho)⟩
  | call f args => exact ⟨hr.1, h _ _ hf hr.2⟩
  | mget => obtain ⟨v, h1, h2⟩ := (obs_iff (P := P) (rv := rv) rfl).1 hr; exact (obs_iff rfl).2 ⟨v, h1, h _ _ hf h2⟩
  | mlen => obtain ⟨v, h1, h2⟩ := (obs_iff (P := P) (rv := rv) rfl).1 hr; exact (obs_iff rfl).2 ⟨v, h1, h _ _ hf h2⟩
  | _ => exact hr.elim
theorem opT_monoF {n : Nat} {cr : List (Nat × AV)} {x : AOp} {K K' : Env → St → Prop} {env : Env} {st : St} (hf : Fresh st) (h : ∀ e s, Fresh s → K e s → K' e s) (hr : opT P n cr x K env st) : opT P n cr x K' env st := by
  obtain ⟨h1, g, h2, h3, h4⟩ := opT_iff.1 hr
  exact opT_iff.2 ⟨h1, g, h2, h3, resKP_monoF hf (fun v s hs => h _ s hs) h4⟩
theorem opT_sub {n : Nat} {cr : List (Nat × AV)} {x : AOp} {av : List (TypeId × Operand)} (hs : ∀ p ∈ av, p ∈ x.av) {K : Env → St → Prop} {env : Env} {st : St} (h : opT P n cr x K env st) : opT P n cr { x with av := av } K env st := by
  obtain ⟨h1, g, h2, h3, h4⟩ := opT_iff.1 h
  exact opT_iff.2 ⟨h1, g, h2, fun hg p hp => h3 hg p (hs p hp), h4⟩
theorem cut_mem {x : AOp} {s s' : List AOp} (h : ∀ z ∈ s', z ∈ s) : ∀ p ∈ (cutAv x s').av, p ∈ (cutAv x s).av := by
  intro p hp
  simp only [cutAv, List.mem_filter] at hp ⊢
  refine ⟨hp.1, ?_⟩
  obtain ⟨z, hz, hq⟩ := List.any_eq_true.1 hp.2
  exact List.any_eq_true.2 ⟨z, h z hz, hq⟩
theorem opT_cut {n : Nat} {cr : List (Nat × AV)} {x : AOp} {s s' : List AOp} (hs : ∀ z ∈ s', z ∈ s) {K : Env → St → Prop} {env : Env} {st : St} (h : opT P n cr (cutAv x s) K env st) : opT P n cr (cutAv x s') K env st :=
  opT_sub (x := cutAv x s) (cut_mem hs) h
theorem indep_cut {x y : AOp} {s s' : List AOp} (hs : ∀ z ∈ s', z ∈ s) (hy : y ∈ s') (h : indep y (cutAv x s) = true) : indep y (cutAv x s') = true := by
  have hl : ∀ d, d ∈ looks (cutAv x s') → d ∈ looks (cutAv x s) := by
    intro d hd
    simp only [looks, List.mem_append, List.mem_filterMap] at hd ⊢
    rcases hd with hd | ⟨p, hp, hd⟩
    · exact .inl hd
    · exact .inr ⟨p, cut_mem hs p hp, hd⟩
  unfold indep at h ⊢
  simp only [Bool.and_eq_true] at h ⊢
  obtain ⟨⟨h1, h2⟩, h3⟩ := h
  refine ⟨⟨?_, h2⟩, ?_⟩
  · cases hd : y.o.dst with
    | none => rfl
    | some d =>
      simp only [hd, Bool.and_eq_true, Bool.not_eq_true', List.contains_eq_mem, decide_eq_false_iff_not] at h1 ⊢
      exact ⟨fun hm => h1.1 (hl d hm), h1.2⟩
  · have key : ∀ p, addrOf y.o.op = some p → avHas (cutAv x s).av p = true → avHas (cutAv x s').av p = true := by
      intro p hp h
      unfold avHas at h ⊢
      obtain ⟨q, hq, he⟩ := List.any_eq_true.1 h
      refine List.any_eq_true.2 ⟨q, ?_, he⟩
      simp only [cutAv, List.mem_filter] at hq ⊢
      exact ⟨hq.1, List.any_eq_true.2 ⟨y, hy, by simp only [hp]; exact he⟩⟩
    cases hp : addrOf y.o.op with
    | none =>
      simp only [hp] at h3 ⊢
      exact h3
    | some p =>
      simp only [hp] at h3 ⊢
      revert h3
      show (match clsOf y.o.op, clsOf x.o.op with | .app, .app => false | .new, .app => false | .store, .store | .store, .load | .load, .store => avHas (cutAv x s).av p | _, _ => true) = true → (match clsOf y.o.op, clsOf x.o.op with | .app, .app => false | .new, .app => false | .store, .store | .store, .load | .load, .store => avHas (cutAv x s').av p | _, _ => true) = true
      cases clsOf y.o.op <;> cases clsOf x.o.op <;> first | exact fun h => h | exact key p hp
theorem bubble {n : Nat} {cr : List (Nat × AV)} {x : AOp} {l2 : List AOp} {K : Env → St → Prop} : ∀ (l1 pre : List AOp) {env : Env} {st : St}, Fresh st → (∀ l3 y l4, l1 = l3 ++ y :: l4 → indep y (cutAv x (pre ++ l3 ++ [y])) = true) →
    vcT P n cr (l1 ++ x :: l2) env st K → vcT P n cr (cutAv x pre :: (l1 ++ l2)) env st K
  | [], pre, _, _, _, _, h => opT_sub (x := x) (fun p hp => by simp only [List.mem_filter] at hp; exact hp.1) h
  | y :: l1, pre, env, st, hf, hi, h => by
    have h1 : opT P n cr y (fun e s => opT P n cr (cutAv x (pre ++ [y])) (fun e s => vcT P n cr (l1 ++ l2) e s K) e s) env st :=
      opT_monoF hf (fun e s hs hk => bubble l1 (pre ++ [y]) hs (fun l3 z l4 he => by
        have := hi (y :: l3) z l4 (by rw [he]; rfl)
        simpa using this) hk) h
    exact opT_cut (fun z hz => by simp [hz]) (opT_swap (by simpa using hi [] y l1 rfl) hf h1)

/-! ### the machine's side of one operation -/
variable {B n : Nat} {w0 w : World} {M : Mem} {st : St} {env : Env} {a : Act}

theorem Inv.fresh (hI : Inv B w0 M st w) : Fresh st := ⟨M.next, fun id hid => by
  cases hs : st id with
  | none => rfl
  | some o => have := hI.dom id o hs; omega⟩

theorem calls_fen {P : Program} {ro : Option Nat} {m : Nat} {f : FuncId} {args : Array Value} {w : World} {R : Ending → World → Prop} (h : Calls P f args w R) : CallsIn (fen ro) m P f args w R := by
  have h' : CallsIn Fence.wide m P f args w R := callsIn_wide.2 h
  cases ro with
  | none => exact h'
  | some l => exact CallsIn.inRound l h'
theorem rounds_fen {P : Program} {ro : Option Nat} {m l : Nat} {f : FuncId} {tmps : Array Value} {assign body : Code} {w : World} {R : Ending → World → Prop} (h : RoundIn Fence.wide m P l f tmps assign body w R) : RoundIn (fen ro) m P l f tmps assign body w R := by
  cases ro with
  | none => exact h
  | some l => exact h
theorem sem_fen {ro : Option Nat} {o : Oper} {ρ : Operand → Value} (h : ∀ c, o.op ≠ .defer c) : o.semAt ro ρ = execOp ρ o := by
  cases ro with
  | none => rfl
  | some l => exact Oper.semAt_some l ρ o h
theorem no_defer {P : Program} {ρ : Operand → AV} {op : Op} {st : St} {K : AV → St → Prop} (h : resK P (evalOp P ρ op) st K) : ∀ c, op ≠ .defer c := by
  rintro c rfl
  exact h.elim
theorem wp_of_out (hE : RepE M n env a) {o : Oper} (hd : dstOk n o.dst = true) {K : Env → St → Prop} {next : Act → World → Prop} {Q : Exit → Act → World → Prop}
    (hn : ∀ a' w', Post B w0 M n K a' w' → next a' w')
    (h : Out P B w0 M st w (fun v st' => K (env.put o.dst v) st') ((execOp a.eval o).run P w)) (hI : Inv B w0 M st w) (hnd : ∀ c, o.op ≠ .defer c) : o.wpIn (fen M.ro) 0 P a w next Q := by
  have hdn : ∀ i, o.dst = some i → i < n := by
    intro i hi
    rw [hi] at hd
    simpa [dstOk] using hd
  unfold Oper.wpIn
  refine ⟨fun _ _ => trivial, ?_⟩
  rw [show o.semAt (fen M.ro).round a.eval = execOp a.eval o from sem_fen hnd]
  generalize (execOp a.eval o).run P w = r at h
  cases r with
  | halt x w' => exact h.elim
  | ok nx w' =>
    cases nx <;> try exact h.elim
    case value x =>
      obtain ⟨M', v, st', h1, h2, h3, h4⟩ := h
      exact hn _ _ ⟨M', _, st', h1.lem, h2, (hE.mono h1).put o.dst hdn h3, h4⟩
    case skip =>
      obtain ⟨M', st', h1, h2, h4⟩ := h
      exact hn _ _ ⟨M', _, st', h1.lem, h2, (hE.mono h1).put o.dst hdn (.undef _), h4⟩
    case enter f vals =>
      obtain ⟨rfl, args, hr, hok, hc⟩ := h
      refine ⟨fun hd => (by simp [fen, Fence.wide] at hd), calls_fen ?_⟩
      refine (hc B w0 M w' vals hI hr).mono fun e w'' ⟨x, M', v, st', he, h1, h2, h3, h4⟩ => ?_
      subst he
      exact hn _ _ ⟨M', _, st', h1.lem, h2, (hE.mono h1).put o.dst hdn h3, h4⟩
    case round l f tmps assign body =>
      obtain ⟨rfl, h⟩ := h
      refine ⟨fun hd => (by simp [fen, Fence.wide] at hd), rounds_fen ?_⟩
      refine h.mono fun e w'' ⟨x, M', v, st', he, h1, h2, h3, h4⟩ => ?_
      subst he
      exact hn _ _ ⟨M', _, st', h1.lem, h2, (hE.mono h1).put o.dst hdn h3, h4⟩

def gMatch (ops : Array Oper) : Option (Nat × Bool) → Option (Nat × Bool) → Prop
  | none, none => True
  | some (j, w), some (s, w') => (ops[j]?).bind (·.dst) = some s ∧ w = w'
  | _, _ => False
theorem wanted_of_guard (hE : RepE M n env a) {ops : Array Oper} {o : Oper} {g : Option (Nat × Bool)} {b : Bool} (hg : guardV env g = some b)
    (hm : gMatch ops o.guard g) : Region.wanted o (yielded ops a.tmps) = b := by
  unfold Region.wanted
  cases ho : o.guard with
  | none =>
    cases g with
    | none => simp [guardV] at hg; simp [hg]
    | some p => simp [ho, gMatch] at hm
  | some p =>
    obtain ⟨j, w⟩ := p
    cases g with
    | none => simp [ho, gMatch] at hm
    | some q =>
      obtain ⟨s, w'⟩ := q
      simp only [ho, gMatch] at hm
      obtain ⟨h1, rfl⟩ := hm
      simp only [guardV] at hg
      have hs := hE.slot s
      cases he : env s <;> simp only [he] at hg <;> try (cases hg; done)
      case bool c =>
        rw [he] at hs
        have hsv : a.tmps[s]? = some (.bool c) := by
          rw [Array.getD_eq_getD_getElem?] at hs
          cases ht : a.tmps[s]? with
          | none => rw [ht] at hs; simp only [Option.getD_none] at hs; unfold Go.undef at hs; cases hs
          | some x => rw [ht] at hs; simp only [Option.getD_some] at hs; cases hs; rfl
        injection hg with hg
        subst hg
        unfold yielded
        simp only [h1, Option.bind_some, hsv]
        cases c <;> cases w <;> rfl
      case tup vs =>
        rw [he] at hs
        injection hg with hg
        subst hg
        have hsv : ∀ c, a.tmps[s]? ≠ some (.bool c) := by
          intro c hc
          rw [Array.getD_eq_getD_getElem?, hc] at hs
          simp only [Option.getD_some] at hs
          cases hs
        unfold yielded
        simp only [h1, Option.bind_some]
        generalize hz : a.tmps[s]? = z at *
        rcases z with _ | z
        · rfl
        · cases z <;> first | rfl | exact absurd rfl (hsv _)

/-! ### in the text's order -/
def gslot (dsts : List (Option Nat)) : Option (Nat × Bool) → Option (Nat × Bool)
  | none => none
  | some (j, w) => match dsts[j]? with
    | some (some s) => some (s, w)
    | _ => some (0, w)
def gOk (dsts : List (Option Nat)) : Option (Nat × Bool) → Bool
  | none => true
  | some (j, _) => match dsts[j]? with
    | some (some _) => true
    | _ => false
def vcOps (P : Program) (n : Nat) (dsts : List (Option Nat)) : List Oper → Env → St → (Env → St → Prop) → Prop
  | [], env, st, K => K env st
  | o :: r, env, st, K => gOk dsts o.guard = true ∧ dstOk n o.dst = true ∧ match guardV env (gslot dsts o.guard) with
    | some true => resK P (evalOp P env.op o.op) st (fun v st' => vcOps P n dsts r (env.put o.dst v) st' K)
    | some false => vcOps P n dsts r (env.put o.dst (.tup [])) st K
    | none => False
theorem gslot_ok {ops : List Oper} {o : Oper} (h : gOk (ops.map (·.dst)) o.guard = true) : gMatch ops.toArray o.guard (gslot (ops.map (·.dst)) o.guard) := by
  cases hg : o.guard with
  | none => trivial
  | some p =>
    obtain ⟨j, w⟩ := p
    rw [hg] at h
    simp only [gOk, gslot, gMatch, List.getElem?_map, List.getElem?_toArray] at h ⊢
    cases hj : ops[j]? with
    | none => simp [hj] at h
    | some o' =>
      cases hd : o'.dst with
      | none => simp [hj, hd] at h
      | some s => simp [hd, hj]
theorem vcOps_sound {all : List Oper} {K : Env → St → Prop} {Q : Exit → Act → World → Prop} : ∀ (l : List Oper) {M : Mem} {env : Env} {st : St} {a : Act} {w : World}, Inv B w0 M st w → RepE M n env a →
    (∀ a' w', Post B w0 M n K a' w' → Q .normal a' w') → vcOps P n (all.map (·.dst)) l env st K → wpListIn (fen M.ro) 0 P all.toArray Q l a w
  | [], M, env, st, a, w, hI, hE, hQ, h => hQ _ _ ⟨M, env, st, .refl M, hI, hE, h⟩
  | o :: r, M, env, st, a, w, hI, hE, hQ, h => by
    obtain ⟨h1, h2, h3⟩ := h
    cases hg : guardV env (gslot (all.map (·.dst)) o.guard) with
    | none => simp only [hg] at h3
    | some b =>
      have hw := wanted_of_guard hE hg (gslot_ok h1)
      have hrec : ∀ a' w', Post B w0 M n (fun env st => vcOps P n (all.map (·.dst)) r env st K) a' w' → wpListIn (fen M.ro) 0 P all.toArray Q r a' w' := by
        intro a' w' ⟨M', env', st', k1, k2, k3, k4⟩
        rw [← k1.ro]
        exact vcOps_sound r k2 k3 (fun a'' w'' ⟨M'', e'', s'', j1, j2, j3, j4⟩ => hQ _ _ ⟨M'', e'', s'', k1.trans j1, j2, j3, j4⟩) k4
      unfold wpListIn
      cases b with
      | true =>
        rw [hw, if_pos rfl]
        simp only [hg] at h3
        exact (wp_of_out hE h2 hrec (evalOp_sound hI hE o h3) hI (no_defer h3))
      | false =>
        rw [hw, if_neg (by simp)]
        simp only [hg] at h3
        have hdn : ∀ i, o.dst = some i → i < n := by
          intro i hi
          rw [hi] at h2
          simpa [dstOk] using h2
        exact ⟨fun _ _ => trivial, hrec _ _ ⟨M, _, st, .refl M, hI, hE.put o.dst hdn (.tup [] #[] rfl fun _ => .undef _), h3⟩⟩
end
end Go.Sh
