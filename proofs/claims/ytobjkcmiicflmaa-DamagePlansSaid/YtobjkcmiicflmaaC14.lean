/- The reference's Width and ahead. -/
import Derived.Test.YtobjkcmiicflmaaC13
set_option maxRecDepth 100000
set_option linter.unusedVariables false
namespace Go.Proofs.Ytobjkcmiicflmaa
open Go Go.V Go.V.Heaps

theorem refWidth_fn {h : Heap} (x : Sp) (hx : OkSp x) : FnS Try.prog 21 [.agg (spC x).toArray] h fun u h' => u = .int .i64 (widS x) ∧ Ext h h' := by
  obtain ⟨h1, h2⟩ := hx
  refine FnS.intro Try.func21 rfl rfl rfl ?_
  refine Sat.seq ?_
  refine Sat.region rfl ?_
  obtain ⟨hA, eA⟩ : ∃ hA, hA = h.push (.cells (spC x).toArray 26) := ⟨_, rfl⟩
  have xA : Ext h hA := by rw [eA]; exact Ext.push h _
  have bA : Blk hA h.size 26 (spC x).toArray := by rw [eA]; exact Blk.new h _ _
  refine Sat.at (h' := hA) (by rw [eA]; rfl) ?_
  refine Sat.seq ?_
  refine Sat.seq ?_
  refine Sat.region rfl ?_
  refine ⟨by decide, .int .i64 x.right, bA.cell 2, by decide, .int .i64 x.left, bA.cell 1, rfl, fun h3 => ?_, fun h3 => ?_⟩
  · refine Sat.cond ?_
    refine Sat.seq ?_
    refine Sat.region rfl ?_
    refine Sat.ret ?_
    exact ⟨by unfold widS wid; rw [if_pos h3], xA⟩
  · refine Sat.cond ?_
    refine Sat.skip ?_
    refine Sat.seq ?_
    refine Sat.region rfl ?_
    refine ⟨by decide, .int .i64 x.right, bA.cell 2, by decide, .int .i64 x.left, bA.cell 1, rfl, x.right - x.left, wrap_i64 (by omega) (by omega), ?_⟩
    refine Sat.ret ?_
    exact ⟨by unfold widS wid; rw [if_neg (by omega)], xA⟩

def ahead (x y : Sp) : Bool := if widS x ≠ widS y then decide (widS y < widS x) else if x.row ≠ y.row then decide (x.row < y.row) else decide (x.left ≤ y.left)

theorem ahead_fn {h : Heap} (x y : Sp) (hx : OkSp x) (hy : OkSp y) : FnS Try.prog 22 [.agg (spC x).toArray, .agg (spC y).toArray] h fun u h' => u = .bool (ahead x y) ∧ Ext h h' := by
  refine FnS.intro Try.func22 rfl rfl rfl ?_
  refine Sat.seq ?_
  refine Sat.region rfl ?_
  obtain ⟨hA, eA⟩ : ∃ hA, hA = h.push (.cells (spC x).toArray 26) := ⟨_, rfl⟩
  have xA : Ext h hA := by rw [eA]; exact Ext.push h _
  have bA : Blk hA h.size 26 (spC x).toArray := by rw [eA]; exact Blk.new h _ _
  obtain ⟨hB, eB⟩ : ∃ hB, hB = hA.push (.cells (spC y).toArray 26) := ⟨_, rfl⟩
  have xB : Ext hA hB := by rw [eB]; exact Ext.push hA _
  have bB : Blk hB hA.size 26 (spC y).toArray := by rw [eB]; exact Blk.new hA _ _
  have bA2 := bA.ext xB
  refine Sat.at (h' := hB) (by rw [eB, eA]; rfl) ?_
  have e1 : (h.push (.cells (Value.agg (spC x).toArray).cells 26)).size = hA.size := by rw [eA]; rfl
  rw [e1]
  have l1 := bA2.lt
  have l2 := bB.lt
  refine Sat.seq ?_
  refine Sat.seq ?_
  refine Sat.drawn (.old hB.size [6, 8]) rfl (by kernel_rfl) ?_
  refine ⟨l1, spC x, rfl, bA2.row, ?_⟩
  refine (refWidth_fn x hx).mono ?_
  rintro u h1 ⟨rfl, x1⟩
  refine ⟨x1.2, ?_⟩
  refine ⟨l2, spC y, rfl, (bB.ext x1).row, ?_⟩
  refine (refWidth_fn y hy).mono ?_
  rintro u h2 ⟨rfl, x2⟩
  have x12 := x1.trans x2
  refine ⟨fun k hk => x2.2 k (Nat.lt_of_lt_of_le hk x1.1), ?_⟩
  have bX := bA2.ext x12
  have bY := bB.ext x12
  have xh := (xA.trans xB).trans x12
  have l1' := bX.lt
  have l2' := bY.lt
  refine ⟨rfl, fun h3 => ?_, fun h3 => ?_⟩
  · refine Sat.cond ?_
    refine Sat.seq ?_
    refine Sat.drawn (.old h2.size [11, 13]) rfl (by kernel_rfl) ?_
    refine ⟨l1', spC x, rfl, bX.row, ?_⟩
    refine (refWidth_fn x hx).mono ?_
    rintro u h4 ⟨rfl, x4⟩
    refine ⟨x4.2, ?_⟩
    refine ⟨l2', spC y, rfl, (bY.ext x4).row, ?_⟩
    refine (refWidth_fn y hy).mono ?_
    rintro u h5 ⟨rfl, x5⟩
    refine ⟨fun k hk => x5.2 k (Nat.lt_of_lt_of_le hk x4.1), ?_⟩
    refine ⟨rfl, fun h6 => ?_, fun h6 => ?_⟩
    · refine Sat.ret ?_
      exact ⟨by unfold ahead; rw [if_pos h3, decide_eq_true (by omega)], xh.trans (x4.trans x5)⟩
    · refine Sat.ret ?_
      exact ⟨by unfold ahead; rw [if_pos h3, decide_eq_false (by omega)], xh.trans (x4.trans x5)⟩
  · refine Sat.cond ?_
    refine Sat.skip ?_
    refine Sat.seq ?_
    refine Sat.seq ?_
    refine Sat.region rfl ?_
    refine ⟨by decide, .int .i64 x.row, bX.cell 0, by decide, .int .i64 y.row, bY.cell 0, rfl, fun h4 => ?_, fun h4 => ?_⟩
    · refine Sat.cond ?_
      refine Sat.seq ?_
      refine Sat.region rfl ?_
      refine ⟨by decide, .int .i64 x.row, bX.cell 0, by decide, .int .i64 y.row, bY.cell 0, rfl, fun h5 => ?_, fun h5 => ?_⟩
      · refine Sat.ret ?_
        exact ⟨by unfold ahead; rw [if_neg (by omega), if_pos h4, decide_eq_true h5], xh⟩
      · refine Sat.ret ?_
        exact ⟨by unfold ahead; rw [if_neg (by omega), if_pos h4, decide_eq_false (by omega)], xh⟩
    · refine Sat.cond ?_
      refine Sat.skip ?_
      refine Sat.seq ?_
      refine Sat.region rfl ?_
      refine ⟨by decide, .int .i64 x.left, bX.cell 1, by decide, .int .i64 y.left, bY.cell 1, rfl, fun h5 => ?_, fun h5 => ?_⟩
      · refine Sat.ret ?_
        exact ⟨by unfold ahead; rw [if_neg (by omega), if_neg (by omega), decide_eq_true h5], xh⟩
      · refine Sat.ret ?_
        exact ⟨by unfold ahead; rw [if_neg (by omega), if_neg (by omega), decide_eq_false (by omega)], xh⟩
end Go.Proofs.Ytobjkcmiicflmaa
