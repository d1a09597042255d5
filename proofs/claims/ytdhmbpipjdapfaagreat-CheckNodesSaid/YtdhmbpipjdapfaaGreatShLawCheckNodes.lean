/- Proved: for every history, level and order of numbers, the call of CheckNodes returns true and its arguments read afterwards as they did. No conditions. -/
import Derived.Test.YtdhmbpipjdapfaaGreatShBr
import Derived.Test.YtdhmbpipjdapfaaGreatRows
import Derived.WalkKit
import Derived.ProofKit
import Derived.OpenShut
import Derived.ShutString
import Derived.ChangeOld
import Derived.Below
import Derived.SizedLaws
set_option linter.unusedSimpArgs false
set_option linter.unusedVariables false
namespace Go.Proofs.YtdhmbpipjdapfaaGreat.checkNodes
open Go.ChangeShapes Go.WideShapes Go.ChangeAt Go.RowKit Go.Sh
theorem own : ownKnob Tryz.prog.godebug = none := by kernel_rfl
theorem laidOut : laidOutB Tryz.prog = true := by kernel_rfl
set_option maxRecDepth 100000 in
theorem lifted (os : Os) (started : os.Started) (H : Type) (enc : TypeId × Value → H) :
    ReturnsInHanded {} Tryz.checked os 11 .any (Rows.checkNodesSpec.pre6 enc Tryz.prog Tryz.f11 Rows.checkNodesRow.domain false) (Rows.checkNodesSpec.post enc Tryz.prog Tryz.f11 false true false false) := by
  refine returnsInHanded_of_change_sized (C := Tryz.checked) own started (by kernel_rfl) Tryz.func11
    (ChangeSpec.witness6 (enc := enc) (C := Tryz.checked) false ⟨#[], #[.slice none 0 0, .int .i64 0, .slice none 0 0], []⟩ 8 (by kernel_rfl) (by kernel_rfl) (by kernel_rfl) (by kernel_rfl)) ?_
  intro W base args ds gs before hval0 hW hcnd hsz0 _
  have hsz : (DataW.weightsEach Tryz.prog (Tryz.f11.params.toList ++ Rows.checkNodesSpec.plain.varTypes Tryz.prog) (ds ++ gs)).all (· ≤ reachBytes) = true := hsz0
  have hval : ∀ (j : Nat) t v, Tryz.f11.params[j]? = some t → args[j]? = some v → Value.okWide Tryz.prog W .any base t v := hval0
  have hW' := hW
  obtain ⟨p, q, hA0, hV, rfl, hfz, hnd⟩ := hW
  have hA : DataW.TrodAll enc Tryz.prog W 0 (fun _ => true) true Tryz.f11.params.toList args.toList ds p := hA0
  rw [Tryz.params11] at hA hval hsz
  obtain ⟨v0, vs0, d0, ds0, p0, q0, hargs, rfl, rfl, h0, r0⟩ := trodAll_cons hA
  obtain ⟨v1, vs1, d1, ds1, p1, q1, rfl, rfl, rfl, h1, r1⟩ := trodAll_cons r0
  obtain ⟨v2, vs2, d2, ds2, p2, q2, rfl, rfl, rfl, h2, r2⟩ := trodAll_cons r1
  obtain ⟨rfl, rfl, rfl⟩ := trodAll_nil r2
  obtain rfl : args = #[v0, v1, v2] := by cases args; simp_all
  obtain ⟨rfl, rfl⟩ := trodVars_none hV
  obtain ⟨u0, s0, rep0⟩ := arg_open (m := 12) (by kernel_rfl) (hval 0 22 v0 rfl rfl) h0 (j := 0) hsz rfl rfl
  obtain ⟨u1, s1, rep1⟩ := arg_open (m := 12) (by kernel_rfl) (hval 1 3 v1 rfl rfl) h1 (j := 1) hsz rfl rfl
  obtain ⟨u2, s2, rep2⟩ := arg_open (m := 12) (by kernel_rfl) (hval 2 33 v2 rfl rfl) h2 (j := 2) hsz rfl rfl
  refine (calls_of_pure (Go.Proofs.checkNodes_pure u0 s0 u1 s1 u2 s2) (repL_cons rep0 (repL_cons rep1 (repL_cons rep2 (repL_nil W))))).mono fun e W' ⟨he, bel⟩ => ?_
  subst he
  exact ⟨_, rfl, _, _, _, [], _, [], hW', trodAll_mk1 (shut_bool Tryz.underlying4 _), (trodAll_cons_mk (arg_shut laidOut (by kernel_rfl) (of_decide_eq_true (by kernel_rfl)) h0 bel) (trodAll_cons_mk (arg_shut laidOut (by kernel_rfl) (of_decide_eq_true (by kernel_rfl)) h1 bel) (trodAll_cons_mk (arg_shut laidOut (by kernel_rfl) (of_decide_eq_true (by kernel_rfl)) h2 bel) trodAll_mk0))), rfl, bel.frame _, fun h => by cases h⟩
theorem over : Rows.checkNodesRow.holds Tryz.pinned (OpenSpec.ofChange Rows.checkNodesSpec) :=
  OpenClaim.holds_of_wide 11 Tryz.f11 rfl rfl rfl rfl rfl rfl rfl ⟨rfl, rfl, rfl, rfl, rfl⟩ rfl rfl rfl rfl rfl (by kernel_rfl) Tryz.func11 (by kernel_rfl)
    (of_decide_eq_true (by kernel_rfl)) (by unfold Func.isWrapper; first | (rw [if_pos (by decide +kernel)]; kernel_rfl) | (rw [if_neg (by decide +kernel)]; exact ⟨rfl, rfl⟩))
    (fun os started H enc _ => lifted os started H enc)
theorem proved : Rows.CheckNodesSaid := over
end Go.Proofs.YtdhmbpipjdapfaaGreat.checkNodes
namespace Go.Proofs.YtdhmbpipjdapfaaGreat
/-- The row, under a short name, for the claim. -/
theorem checkNodes_holds : Rows.CheckNodesSaid := checkNodes.proved
end Go.Proofs.YtdhmbpipjdapfaaGreat

