/- The reference's Plan: plain part. -/
import Derived.Test.YtobjkcmiicflmaaP2
set_option maxRecDepth 100000
set_option linter.unusedVariables false
namespace Go.Proofs.Ytobjkcmiicflmaa
open Go Go.V Go.V.Heaps

def spOf (x : Pc) : Sp := ⟨x.row, x.left, x.right⟩
theorem widS_spOf (x : Pc) : widS (spOf x) = wd x := rfl
/-- The best of the first i that fit. -/
def BestR (l : List Pc) (b : Int) (i : Nat) : Option Nat → Prop
  | none => ∀ j, j < i → b < wd (at_ l j)
  | some k => k < i ∧ wd (at_ l k) ≤ b ∧ ∀ j, j < i → j ≠ k → wd (at_ l j) ≤ b → plLt (at_ l k) (at_ l j)
def bestO : Option Nat → Value
  | none => .int .i64 (-1)
  | some k => .int .i64 (k : Int)
theorem ahead_lt {l : List Pc} (hs : ∀ i j, i < j → j < l.length → (at_ l i).at_ < (at_ l j).at_) {k i : Nat} (hk : k < i) (hi : i < l.length) :
    (ahead (spOf (at_ l k)) (spOf (at_ l i)) = true → plLt (at_ l k) (at_ l i)) ∧ (ahead (spOf (at_ l k)) (spOf (at_ l i)) = false → plLt (at_ l i) (at_ l k)) := by
  have hat := hs k i hk hi
  have e1 : widS (spOf (at_ l k)) = wd (at_ l k) := rfl
  have e2 : widS (spOf (at_ l i)) = wd (at_ l i) := rfl
  have e3 : (spOf (at_ l k)).row = (at_ l k).row := rfl
  have e4 : (spOf (at_ l i)).row = (at_ l i).row := rfl
  have e5 : (spOf (at_ l k)).left = (at_ l k).left := rfl
  have e6 : (spOf (at_ l i)).left = (at_ l i).left := rfl
  unfold ahead plLt
  rw [e1, e2, e3, e4, e5, e6]
  split
  · simp only [decide_eq_true_iff, decide_eq_false_iff_not]; omega
  · split
    · simp only [decide_eq_true_iff, decide_eq_false_iff_not]; omega
    · simp only [decide_eq_true_iff, decide_eq_false_iff_not]; omega
theorem plLt_trans {x y z : Pc} (h1 : plLt x y) (h2 : plLt y z) : plLt x z := by unfold plLt at *; omega

theorem BestR.pass {l : List Pc} {b : Int} {i : Nat} {o : Option Nat} (h : BestR l b i o) (hx : b < wd (at_ l i)) : BestR l b (i + 1) o := by
  cases o with
  | none =>
    intro j hj
    by_cases e : j = i
    · subst e; exact hx
    · exact h j (by omega)
  | some k =>
    obtain ⟨h1, h2, h3⟩ := h
    refine ⟨by omega, h2, fun j hj hne hf => ?_⟩
    by_cases e : j = i
    · subst e; omega
    · exact h3 j (by omega) hne hf
theorem BestR.first {l : List Pc} {b : Int} {i : Nat} (h : BestR l b i none) (hx : wd (at_ l i) ≤ b) : BestR l b (i + 1) (some i) :=
  ⟨by omega, hx, fun j hj hne hf => by have := h j (by omega); omega⟩
theorem BestR.keep {l : List Pc} {b : Int} {i k : Nat} (h : BestR l b i (some k)) (hlt : plLt (at_ l k) (at_ l i)) : BestR l b (i + 1) (some k) := by
  obtain ⟨h1, h2, h3⟩ := h
  refine ⟨by omega, h2, fun j hj hne hf => ?_⟩
  by_cases e : j = i
  · subst e; exact hlt
  · exact h3 j (by omega) hne hf
theorem BestR.better {l : List Pc} {b : Int} {i k : Nat} (h : BestR l b i (some k)) (hx : wd (at_ l i) ≤ b) (hlt : plLt (at_ l i) (at_ l k)) : BestR l b (i + 1) (some i) := by
  obtain ⟨h1, h2, h3⟩ := h
  refine ⟨by omega, hx, fun j hj hne hf => ?_⟩
  by_cases e : j = k
  · subst e; exact hlt
  · exact plLt_trans hlt (h3 j (by omega) e hf)
end Go.Proofs.Ytobjkcmiicflmaa
