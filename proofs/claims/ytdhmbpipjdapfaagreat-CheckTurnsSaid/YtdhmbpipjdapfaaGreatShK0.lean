import Derived.Test.YtdhmbpipjdapfaaGreatShU
import Derived.IntWalk
import Derived.Test.YtdhmbpipjdapfaaGreatProg
namespace Go.Proofs
open Go Go.Sh
set_option maxRecDepth 20000
@[simp] theorem ti3 : tiOf Tryz.prog 3 = some ⟨.int .i64, 1, 8, [.int .i64 0]⟩ := by kernel_rfl
@[simp] theorem ti4 : tiOf Tryz.prog 4 = some ⟨.bool, 1, 1, [.bool false]⟩ := by kernel_rfl
@[simp] theorem ti9 : tiOf Tryz.prog 9 = some ⟨.string, 1, 16, [.str ⟨#[]⟩]⟩ := by kernel_rfl
@[simp] theorem ti30 : tiOf Tryz.prog 30 = some ⟨.struct [(0, 3), (1, 3), (2, 9), (3, 9)], 4, 48, [.int .i64 0, .int .i64 0, .str ⟨#[]⟩, .str ⟨#[]⟩]⟩ := by kernel_rfl
@[simp] theorem ti22 : tiOf Tryz.prog 22 = some ⟨.slice 30, 1, 24, [.list 0 [] .clip]⟩ := by kernel_rfl
@[simp] theorem ti32 : tiOf Tryz.prog 32 = some ⟨.struct [(0, 3), (1, 3), (2, 3), (3, 4)], 4, 32, [.int .i64 0, .int .i64 0, .int .i64 0, .bool false]⟩ := by kernel_rfl
theorem mixed : Tryz.prog.follows .mixedOrders = true := by kernel_rfl
theorem wrap_i64 {x : Int} (h : -9223372036854775808 ≤ x) (h1 : x ≤ 9223372036854775807) : IntKind.i64.wrap x = x := IntWalk.i64_in x ⟨h, h1⟩

structure Ev where
  kind : Int
  txn : Int
  key : ByteArray
  val : ByteArray
  deriving Inhabited, DecidableEq
@[simp] def encEv (e : Ev) : List AV := [.int .i64 e.kind, .int .i64 e.txn, .str e.key, .str e.val]
abbrev avH (h : List Ev) (o : Sh.Own) : AV := .list 4 (h.map encEv) o

theorem ends_c (e : Ev) : PureC Tryz.prog 102 [.agg (encEv e)] (.bool (decide (e.kind = 4 ∨ e.kind = 5))) := by
  refine pure_of_dwp Tryz.func102 rfl (by kernel_rfl) (by simp [Tryz.ntmps102]) fun st K hK => ?_
  rw [Tryz.ntmps102]
  refine dwp_of_vk (by kernel_rfl) ?_
  simp
  refine newK_intro fun id hid => ?_
  by_cases h4 : e.kind = 4
  · simp [h4, Tryz.results102]
    exact fin' (.refl _) (le_upd hid _) (by simpa [h4] using hK)
  · simp [h4, Tryz.results102]
    exact fin' (.refl _) (le_upd hid _) (by simpa [h4] using hK)

theorem of_c (h : List Ev) (o : Sh.Own) (txn : Int) {st : St} {K : AV → St → Prop}
    (hK : ∀ a b, st a = none → st b = none → a ≠ b → K (.fn 124 [.box a 0, .box b 0]) ((st.upd a (.cells 22 [avH h o])).upd b (.cells 3 [.int .i64 txn]))) :
    dcall Tryz.prog 101 [avH h o, .int .i64 txn] st K := by
  refine dcall_of_dwp Tryz.func101 rfl (by kernel_rfl) (by simp [Tryz.ntmps101]) ?_
  rw [Tryz.ntmps101]
  refine dwp_of_vk (by kernel_rfl) ?_
  simp
  refine newK_intro fun a ha => ?_
  simp
  refine newK_intro fun b hb => ?_
  rw [upd_none_iff] at hb
  simp [Tryz.results101]
  exact fin (hK a b ha hb.2 (Ne.symm hb.1))
end Go.Proofs
