/- What is proved: for every input 'phosphorlaw27.DamagePlans' returns true and its arguments read as they did. Conditions: none beyond the given row. -/
import Derived.Test.YtobjkcmiicflmaaC20
import Derived.Test.YtobjkcmiicflmaaV8
import Derived.Test.YtobjkcmiicflmaaRows
import Derived.WalkKit
import Derived.ProofKit
set_option maxRecDepth 100000
set_option linter.unusedVariables false
namespace Go.Proofs.Ytobjkcmiicflmaa
open Go Go.V Go.V.Heaps Go.ChangeShapes Go.WideShapes Go.RowKit

section
variable {H : Type} {enc : TypeId × Value → H} {w : World} {sp : Nat → Bool} {held : Bool}
theorem list_of {α : Type} {n : Nat} {R : Nat → α → Prop} (h : ∀ i, i < n → ∃ x, R i x) : ∃ l : List α, l.length = n ∧ ∀ i x, l[i]? = some x → R i x := by
  induction n with
  | zero => exact ⟨[], rfl, fun i x h => by cases h⟩
  | succ n ih =>
    obtain ⟨l, hl, hr⟩ := ih fun i hi => h i (by omega)
    obtain ⟨x, hx⟩ := h n (by omega)
    refine ⟨l ++ [x], by simp [hl], fun i y hi => ?_⟩
    by_cases hin : i < n
    · rw [List.getElem?_append_left (by omega)] at hi
      exact hr i y hi
    · have : i < (l ++ [x]).length := (List.getElem?_eq_some_iff.1 hi).1
      rw [List.length_append, List.length_singleton] at this
      have e : i = n := by omega
      subst e
      rw [List.getElem?_append_right (by omega), hl, Nat.sub_self] at hi
      injection hi with hi
      subst hi
      exact hx
theorem open_span {n : Nat} {cs : List Value} {y : DataW H × List MemPlace} (h : DataW.trod enc Try.prog w 0 sp held n 26 cs = some y) : ∃ x : Sp, cs = spC x := by
  obtain ⟨hl, hf⟩ := open_field (c := 3) Try.underlying26 (by kernel_rfl) h
  match cs, hl with
  | [c0, c1, c2], _ =>
    have e3 : Try.prog.cellsOf 3 = 1 := by kernel_rfl
    obtain ⟨_, _, f0⟩ := hf 0 3 0 1 rfl e3
    obtain ⟨_, _, f1⟩ := hf 1 3 1 1 rfl e3
    obtain ⟨_, _, f2⟩ := hf 2 3 2 1 rfl e3
    obtain ⟨n0, a0, _⟩ := DataW.trod_int Try.underlying3 f0
    obtain ⟨n1, a1, _⟩ := DataW.trod_int Try.underlying3 f1
    obtain ⟨n2, a2, _⟩ := DataW.trod_int Try.underlying3 f2
    injection a0 with a0
    injection a1 with a1
    injection a2 with a2
    subst a0; subst a1; subst a2
    exact ⟨⟨n0, n1, n2⟩, rfl⟩
theorem open_spans {v : Value} {d : DataW H} {ps : List MemPlace} (h : DataW.Trod enc Try.prog w 0 sp held 22 v d ps) (hv : ∃ A len cap, v = .slice A len cap) : ∃ ls, SpansV w.heap v ls := by
  obtain ⟨n, h⟩ := h
  obtain ⟨A0, l0, c0, rfl⟩ := hv
  obtain ⟨A, len, cap, e, hlc, _, hr⟩ := open_elems (v := .slice A0 l0 c0) (c := 3) Try.underlying22 (by kernel_rfl) h
  injection e with e1 e2 e3
  subst e1; subst e2; subst e3
  rcases hr with rfl | ⟨p, rfl, hp⟩
  · exact ⟨[], A0, c0, rfl, Nat.zero_le _, .inl rfl⟩
  · obtain ⟨ls, hl, hi⟩ := list_of (R := fun i x => Row w.heap (p.add (i * 3)) (spC x)) fun i hi => by
      obtain ⟨cs, m, y, hcl, hrow, ht⟩ := hp i hi
      obtain ⟨x, rfl⟩ := open_span ht
      exact ⟨x, hrow⟩
    subst hl
    exact ⟨ls, some p, c0, rfl, hlc, .inr ⟨p, rfl, hi⟩⟩
end

theorem plansLaw_keep {h : Heap} {v : Value} {ls : List Sp} {b : Int} (hv : SpansV h v ls) (hb : -9223372036854775808 ≤ b ∧ b ≤ 9223372036854775807) : FnS Try.prog 3 [v, .int .i64 b] h fun u h' => u = .bool true ∧ Ext h h' := plansLaw_fn awake_fn hv hb
theorem plansLaw_own : ownKnob Try.prog.godebug = none := by kernel_rfl
theorem plansLaw_contract (H : Type) (enc : TypeId × Value → H) (W : World) (base : Nat) (args : Array Value) (ds gs : List (DataW H)) (before : List MemPlace)
    (hval : ∀ (j : Nat) t v, Try.f3.params[j]? = some t → args[j]? = some v → Value.okWide Try.prog W .any base t v)
    (hW : DataW.Whole enc Try.prog Try.f3.params.toList Rows.damagePlansSpec.vars false W args.toList ds gs before) :
    Calls Try.prog 3 args W fun e W' => ∃ v, e = .returned v ∧ Rows.damagePlansSpec.post enc Try.prog Try.f3 false true false false W args v W' := by
  have hW' := hW
  obtain ⟨p, q, hA0, hV, rfl, hfz, hnd⟩ := hW
  have hA : DataW.TrodAll enc Try.prog W 0 (fun _ => true) true Try.f3.params.toList args.toList ds p := hA0
  rw [Try.params3] at hA hval
  obtain ⟨v0, vs0, d0, ds0, p0, q0, hargs, rfl, rfl, h0, r0⟩ := trodAll_cons hA
  obtain ⟨v1, vs1, d1, ds1, p1, q1, hargs1, rfl, rfl, h1, r1⟩ := trodAll_cons r0
  obtain ⟨rfl, rfl, rfl⟩ := trodAll_nil r1
  subst hargs1
  obtain rfl : args = #[v0, v1] := by cases args; simp_all
  obtain ⟨a0, l0, c0, rfl⟩ := okWide_slice Try.underlying22 (hval 0 22 v0 rfl rfl)
  obtain ⟨ls, hs⟩ := open_spans h0 ⟨a0, l0, c0, rfl⟩
  obtain ⟨b, rfl⟩ := okWide_int Try.underlying3 (hval 1 3 v1 rfl rfl)
  obtain ⟨m, h1⟩ := h1
  obtain ⟨b', e1, _, hwf⟩ := DataW.trod_int (cs := [.int .i64 b]) Try.underlying3 h1
  obtain rfl : b = b' := by injection e1 with e1; injection e1
  have hb : -9223372036854775808 ≤ b ∧ b ≤ 9223372036854775807 := by simpa [Lit.wf, IntKind.min, IntKind.max, IntKind.signed, IntKind.bits] using hwf
  refine ((plansLaw_keep hs hb).run W rfl).mono fun e W' ⟨v, he, hk, hv, hx⟩ => ?_
  subst hv
  refine ⟨_, he, post_true (tb := 4) (by kernel_rfl) (by kernel_rfl) rfl (fun ds hd => ?_) (by kernel_rfl) Try.underlying4 hW' (below_of hk hx)⟩
  match ds, hd with
  | [d, d'], _ => rfl

theorem plansLaw_lifted (os : Os) (started : os.Started) (H : Type) (enc : TypeId × Value → H) :
    ReturnsInHanded {} Try.checked os 3 .any (Rows.damagePlansSpec.pre6 enc Try.prog Try.f3 Rows.damagePlansRow.domain false) (Rows.damagePlansSpec.post enc Try.prog Try.f3 false true false false) := by
  refine returnsInHanded_of_change (C := Try.checked) plansLaw_own started (by kernel_rfl) Try.func3
    (ChangeSpec.witness6 (enc := enc) (C := Try.checked) false ⟨#[], #[.slice none 0 0, .int .i64 0], []⟩ 8 (by kernel_rfl) (by kernel_rfl) (by kernel_rfl) (by kernel_rfl)) ?_
  intro W base args ds gs before hval hW _ _
  exact plansLaw_contract H enc W base args ds gs before hval hW

theorem plans_holds : Rows.DamagePlansSaid :=
  OpenClaim.holds_of_wide 3 Try.f3 rfl rfl rfl rfl rfl rfl rfl ⟨rfl, rfl, rfl, rfl, rfl⟩ rfl rfl rfl rfl rfl (by kernel_rfl) Try.func3 (by kernel_rfl)
    (of_decide_eq_true (by kernel_rfl)) (by unfold Func.isWrapper; first | (rw [if_pos (by decide +kernel)]; kernel_rfl) | (rw [if_neg (by decide +kernel)]; exact ⟨rfl, rfl⟩))
    (fun os started H enc _ => plansLaw_lifted os started H enc)
end Go.Proofs.Ytobjkcmiicflmaa
