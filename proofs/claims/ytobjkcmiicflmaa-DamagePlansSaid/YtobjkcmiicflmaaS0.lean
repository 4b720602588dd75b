/- Spans in memory. -/
import Derived.Test.YtobjkcmiicflmaaL7
import Derived.Test.YtobjkcmiicflmaaW3
set_option maxRecDepth 100000
set_option linter.unusedVariables false
namespace Go.Proofs.Ytobjkcmiicflmaa
open Go Go.V

structure Sp where
  row : Int
  left : Int
  right : Int
deriving DecidableEq
instance : Inhabited Sp := ⟨⟨0, 0, 0⟩⟩
def spC (x : Sp) : List Value := [.int .i64 x.row, .int .i64 x.left, .int .i64 x.right]
theorem spC_len (x : Sp) : (spC x).length = 3 := rfl
theorem one_sp (x : Sp) : ∀ u ∈ spC x, u.oneCell' = true := by
  intro u hu
  simp [spC] at hu
  rcases hu with rfl | rfl | rfl <;> rfl
def SpansV (h : Heap) (v : Value) (ls : List Sp) : Prop := ∃ A c, v = .slice A ls.length c ∧ ls.length ≤ c ∧ (ls = [] ∨ ∃ p, A = some p ∧ ∀ (k : Nat) x, ls[k]? = some x → Row h (p.add (k * 3)) (spC x))
theorem SpansV.ext {h h' : Heap} (hx : Ext h h') {v : Value} {ls : List Sp} (hs : SpansV h v ls) : SpansV h' v ls := by
  obtain ⟨A, c, rfl, hc, hr⟩ := hs
  exact ⟨A, c, rfl, hc, hr.imp id fun ⟨p, hp, hi⟩ => ⟨p, hp, fun k x hk => (hi k x hk).ext hx⟩⟩
theorem Own.spans {h : Heap} {base e n : Nat} {v : Value} {ls : List Sp} (ho : Own h base e 3 v n (ls.flatMap spC)) (hn : ls.length = n) : SpansV h v ls := by
  subst hn
  obtain ⟨A, c, rfl, hc⟩ := ho.slice
  refine ⟨A, c, rfl, hc, ?_⟩
  by_cases h0 : ls = []
  · exact .inl h0
  · obtain ⟨g, c', e', _, _, hrow, _⟩ := ho.ptr (List.length_pos_iff.2 h0)
    injection e' with e1
    exact .inr ⟨_, e1, fun k x hk => hrow.elem spC_len hk⟩

theorem i27 : slInfo Try.prog 27 = some (35, 3, .agg #[.int .i64 0, .int .i64 0, .int .i64 0], 24) := by kernel_rfl

end Go.Proofs.Ytobjkcmiicflmaa
