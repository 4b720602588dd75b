/- What is proved: for every input 'phosphorlaw26.MergeOrders' returns true and its argument reads as it did. Conditions: none beyond the given row. -/
import Derived.Test.YtiheebgoadmomaaR0
import Derived.Test.YtiheebgoadmomaaO3
import Derived.Test.YtiheebgoadmomaaRows
import Derived.WalkKit
import Derived.ProofKit
set_option maxRecDepth 100000
set_option linter.unusedVariables false
namespace Go.Proofs.Ytiheebgoadmomaa
open Go Go.V Go.V.Heaps Go.ChangeShapes Go.WideShapes Go.RowKit

theorem orders_keep {h : Heap} {v : Value} {ls0 : List (List It)} (hs0 : SrcsV h v ls0) : FnS Try.prog 4 [v] h fun u h' => u = .bool true ∧ Ext h h' := orders_fn hs0

theorem orders_own : ownKnob Try.prog.godebug = none := by kernel_rfl
theorem orders_contract (H : Type) (enc : TypeId × Value → H) (W : World) (base : Nat) (args : Array Value) (ds gs : List (DataW H)) (before : List MemPlace)
    (hval : ∀ (j : Nat) t v, Try.f4.params[j]? = some t → args[j]? = some v → Value.okWide Try.prog W .any base t v)
    (hW : DataW.Whole enc Try.prog Try.f4.params.toList Rows.mergeOrdersSpec.vars false W args.toList ds gs before) :
    Calls Try.prog 4 args W fun e W' => ∃ v, e = .returned v ∧ Rows.mergeOrdersSpec.post enc Try.prog Try.f4 false true false false W args v W' := by
  have hW' := hW
  obtain ⟨p, q, hA0, hV, rfl, hfz, hnd⟩ := hW
  have hA : DataW.TrodAll enc Try.prog W 0 (fun _ => true) true Try.f4.params.toList args.toList ds p := hA0
  rw [Try.params4] at hA hval
  obtain ⟨v0, vs0, d0, ds0, p0, q0, hargs, rfl, rfl, h0, r0⟩ := trodAll_cons hA
  obtain ⟨rfl, rfl, rfl⟩ := trodAll_nil r0
  obtain rfl : args = #[v0] := by cases args; simp_all
  obtain ⟨a0, l0, c0, rfl⟩ := okWide_slice Try.underlying22 (hval 0 22 v0 rfl rfl)
  obtain ⟨ls, hs⟩ := open_srcs h0 ⟨a0, l0, c0, rfl⟩
  refine ((orders_keep hs).run W rfl).mono fun e W' ⟨v, he, hk, hv, hx⟩ => ?_
  subst hv
  refine ⟨_, he, post_true (tb := 4) (by kernel_rfl) (by kernel_rfl) rfl (fun ds hd => ?_) (by kernel_rfl) Try.underlying4 hW' (below_of hk hx)⟩
  match ds, hd with
  | [d], _ => rfl

theorem orders_lifted (os : Os) (started : os.Started) (H : Type) (enc : TypeId × Value → H) :
    ReturnsInHanded {} Try.checked os 4 .any (Rows.mergeOrdersSpec.pre6 enc Try.prog Try.f4 Rows.mergeOrdersRow.domain false) (Rows.mergeOrdersSpec.post enc Try.prog Try.f4 false true false false) := by
  refine returnsInHanded_of_change (C := Try.checked) orders_own started (by kernel_rfl) Try.func4
    (ChangeSpec.witness6 (enc := enc) (C := Try.checked) false ⟨#[], #[.slice none 0 0], []⟩ 8 (by kernel_rfl) (by kernel_rfl) (by kernel_rfl) (by kernel_rfl)) ?_
  intro W base args ds gs before hval hW _ _
  exact orders_contract H enc W base args ds gs before hval hW

theorem orders_holds : Rows.MergeOrdersSaid :=
  OpenClaim.holds_of_wide 4 Try.f4 rfl rfl rfl rfl rfl rfl rfl ⟨rfl, rfl, rfl, rfl, rfl⟩ rfl rfl rfl rfl rfl (by kernel_rfl) Try.func4 (by kernel_rfl)
    (of_decide_eq_true (by kernel_rfl)) (by unfold Func.isWrapper; first | (rw [if_pos (by decide +kernel)]; kernel_rfl) | (rw [if_neg (by decide +kernel)]; exact ⟨rfl, rfl⟩))
    (fun os started H enc _ => orders_lifted os started H enc)
end Go.Proofs.Ytiheebgoadmomaa
