import Derived.Test.YtdhmbpipjdapfaaGreatShK17
namespace Go.Proofs
open Go Go.Sh
set_option maxRecDepth 20000
theorem pure_sub {P : Program} {f : FuncId} {args args' : List AV} {r : AV} (h : PureC P f args r) (hl : args.length = args'.length) (hs : ∀ j, AV.sub (args.getD j .undef) (args'.getD j .undef)) : PureC P f args' r :=
  fun st K hK => ⟨(h st K hK).1, fun B w0 M w vals hI hv => (h st K hK).2 B w0 M w vals hI ⟨hv.1.trans hl.symm, fun j => hs j M _ (hv.2 j)⟩⟩
def shownH : List Ev := [⟨1, 1, ⟨#[]⟩, ⟨#[]⟩⟩, ⟨3, 1, ⟨#[97]⟩, ⟨#[120]⟩⟩, ⟨2, 1, ⟨#[97]⟩, ⟨#[]⟩⟩, ⟨4, 1, ⟨#[]⟩, ⟨#[]⟩⟩]
def shownA : Vd := ⟨1, true, [1], ⟨0, 0, 0⟩, []⟩
def shownB : Vd := ⟨1, false, [], ⟨3, 2, 1⟩, []⟩
theorem shown_formed : (formedE shownH).2 = 0 := by decide +kernel
theorem shown_bads : badAll shownH ≠ [] := by decide +kernel
theorem shown_a : checkE shownH shownA false = 14 := by decide +kernel
theorem shown_b (g : Bool) : checkE shownH shownB g = 0 := by cases g <;> decide +kernel
theorem shown_c : PureC Tryz.prog 19 [] (.bool true) := by
  refine pure_of_dwp Tryz.func19 rfl (by kernel_rfl) (by simp [Tryz.ntmps19]) fun st K hK => ?_
  rw [Tryz.ntmps19]
  refine dwp_of_vk (by kernel_rfl) ?_
  simp
  have ha := check_c shownH (by decide) .clip shownA .clip .clip (by decide) false (fun _ _ _ => goodf_c shownH (by decide) .clip shownA .clip .clip (.inr (.inr shown_bads)))
  rw [shown_a] at ha
  refine callK_pure (pure_sub ha rfl (sub_cons (.of_eq (by rfl)) (sub_cons (AV.sub.agg rfl (sub_cons (.refl _) (sub_cons (.refl _) (sub_cons (.refl _) (sub_cons (.refl _) (sub_cons (.refl _) (sub_cons (.refl _) (sub_cons (AV.sub.nil _ _ _ _ (.inr ⟨rfl, rfl⟩)) sub_nil)))))))) sub_nil))) ?_
  simp
  have hb := check_c shownH (by decide) .clip shownB .clip .clip (by decide) false (fun _ _ e => by cases e)
  rw [shown_b] at hb
  refine callK_pure (pure_sub hb rfl (sub_cons (.of_eq (by rfl)) (sub_cons (AV.sub.agg rfl (sub_cons (.refl _) (sub_cons (.refl _) (sub_cons (AV.sub.nil _ _ _ _ (.inr ⟨rfl, rfl⟩)) (sub_cons (.refl _) (sub_cons (.refl _) (sub_cons (.refl _) (sub_cons (AV.sub.nil _ _ _ _ (.inr ⟨rfl, rfl⟩)) sub_nil)))))))) sub_nil))) ?_
  simp [Tryz.results19]
  exact fin hK
end Go.Proofs
