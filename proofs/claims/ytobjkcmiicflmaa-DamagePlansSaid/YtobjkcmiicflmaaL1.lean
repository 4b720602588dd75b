/- Cells, rows of them, lines; slices.Repeat of one cell. -/
import Derived.Test.YtobjkcmiicflmaaW2
import Derived.Test.YtobjkcmiicflmaaTab
set_option maxRecDepth 100000
set_option linter.unusedVariables false
namespace Go.Proofs.Ytobjkcmiicflmaa
open Go Go.V

structure Cel where
  glyph : Int
  rend : Int
  kept : Bool
deriving DecidableEq
instance : Inhabited Cel := ⟨⟨0, 0, false⟩⟩
def celC (x : Cel) : List Value := [.int .i32 x.glyph, .int .u8 x.rend, .bool x.kept]
theorem celC_len (x : Cel) : (celC x).length = 3 := rfl
theorem one_cel (x : Cel) : ∀ u ∈ celC x, u.oneCell' = true := by
  intro u hu
  simp [celC] at hu
  rcases hu with rfl | rfl | rfl <;> rfl
theorem one_cels (l : List Cel) : ∀ u ∈ l.flatMap celC, u.oneCell' = true := fun u hu => by
  obtain ⟨x, _, hx⟩ := List.mem_flatMap.1 hu
  exact one_cel x u hx
def blankC : Cel := ⟨32, 0, false⟩
theorem iCells : slInfo Try.prog 69 = some (44, 3, .agg #[.int .i32 0, .int .u8 0, .bool false], 8) := by kernel_rfl

/-- The slice v reads as these cells. -/
def CelsV (h : Heap) (v : Value) (l : List Cel) : Prop := ∃ A c, v = .slice A l.length c ∧ l.length ≤ c ∧ (l = [] ∨ ∃ p, A = some p ∧ Row h p (l.flatMap celC))
theorem CelsV.ext {h h' : Heap} (hx : Ext h h') {v : Value} {l : List Cel} (hs : CelsV h v l) : CelsV h' v l := by
  obtain ⟨A, c, rfl, hc, hr⟩ := hs
  exact ⟨A, c, rfl, hc, hr.imp id fun ⟨p, hp, hi⟩ => ⟨p, hp, hi.ext hx⟩⟩
theorem Own.cels {h : Heap} {base e n : Nat} {v : Value} {l : List Cel} (ho : Own h base e 3 v n (l.flatMap celC)) (hn : l.length = n) : CelsV h v l := by
  subst hn
  obtain ⟨A, c, rfl, hc⟩ := ho.slice
  refine ⟨A, c, rfl, hc, ?_⟩
  by_cases h0 : l = []
  · exact .inl h0
  · obtain ⟨g, c', e', _, _, hrow, _⟩ := ho.ptr (List.length_pos_iff.2 h0)
    injection e' with e1
    exact .inr ⟨_, e1, hrow⟩
/-- Cells of the call's own. -/
abbrev OwnC (h : Heap) (base : Nat) (v : Value) (l : List Cel) : Prop := Own h base 44 3 v l.length (l.flatMap celC)

theorem erased_fn {h : Heap} : FnS Try.prog 62 [] h fun u h' => u = .agg (celC blankC).toArray ∧ Ext h h' := by
  refine FnS.go Try.func62 rfl rfl rfl rfl ?_
  intro g h1 n1
  refine build_strct rfl rfl rfl (cells := (celC blankC).toArray) (by kernel_rfl) ?_
  refine ⟨rfl, n1.can rfl, fun h2 p2 => ?_⟩
  have n2 := n1.put p2 rfl
  exact ⟨_, rfl, n2.row, rfl, n2.ext⟩

theorem and_mask (n : Nat) (h : n ≤ 1000) : bitsOf .and .u64 (n : Int) 4294967295 = (n : Int) := by
  have key : ∀ n : Nat, n < 1001 → bitsOf .and .u64 (n : Int) 4294967295 = (n : Int) := by decide +kernel
  exact key n (by omega)
theorem wrap_u64' {n : Int} (h1 : 0 ≤ n) (h2 : n ≤ 1000) : IntKind.u64.wrap n = n := by rw [IntKind.wrap_u64]; omega
theorem mul64_fn {h : Heap} {n : Nat} (hn : n ≤ 1000) : FnS Try.prog 70 [.int .u64 1, .int .u64 (n : Int)] h fun u h' => u = .tuple #[.int .u64 0, .int .u64 (n : Int)] ∧ h' = h := by
  refine FnS.go Try.func70 rfl rfl rfl rfl ?_
  refine ⟨rfl, 1, by decide, ?_⟩
  refine ⟨by decide, 0, by decide, ?_⟩
  refine ⟨rfl, (n : Int), and_mask n hn, ?_⟩
  refine ⟨by decide, 0, by rw [Int.fdiv_eq_ediv_of_nonneg _ (by decide)]; exact Int.ediv_eq_zero_of_lt (by omega) (by simp [IntKind.bits]; omega), ?_⟩
  refine ⟨rfl, (n : Int), by rw [Int.one_mul]; exact wrap_u64' (by omega) (by omega), ?_⟩
  refine ⟨rfl, 0, by rw [Int.zero_mul]; rfl, ?_⟩
  refine ⟨by decide, 0, by rw [Int.fdiv_eq_ediv_of_nonneg _ (by decide)]; exact Int.ediv_eq_zero_of_lt (by omega) (by simp [IntKind.bits]; omega), ?_⟩
  refine ⟨rfl, 0, rfl, ?_⟩
  refine ⟨rfl, 0, rfl, ?_⟩
  refine ⟨by decide, 0, by decide, ?_⟩
  refine ⟨rfl, 0, rfl, rfl, 0, rfl, ?_⟩
  refine ⟨rfl, 0, rfl, rfl, 0, rfl, by decide, 0, by decide, rfl, 0, rfl, ?_⟩
  refine ⟨rfl, (n : Int), by rw [Int.one_mul]; exact wrap_u64' (by omega) (by omega), ?_⟩
  exact ⟨rfl, rfl⟩
theorem mul_fn {h : Heap} {n : Nat} (hn : n ≤ 1000) : FnS Try.prog 67 [.int .u64 1, .int .u64 (n : Int)] h fun u h' => u = .tuple #[.int .u64 0, .int .u64 (n : Int)] ∧ h' = h := by
  refine FnS.go Try.func67 rfl rfl rfl rfl ?_
  refine (mul64_fn hn).mono ?_
  rintro u h1 ⟨rfl, rfl⟩
  exact ⟨rfl, rfl⟩
end Go.Proofs.Ytobjkcmiicflmaa
