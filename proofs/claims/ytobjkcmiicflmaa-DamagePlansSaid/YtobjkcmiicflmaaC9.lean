/- The pile: which comes first; its methods. -/
import Derived.Test.YtobjkcmiicflmaaC1
import Derived.Test.YtobjkcmiicflmaaH3
set_option maxRecDepth 100000
set_option linter.unusedVariables false
namespace Go.Proofs.Ytobjkcmiicflmaa
open Go Go.V Go.V.Heaps

def wid (l r : Int) : Int := if r ≤ l then 0 else r - l
def OkPc (x : Pc) : Prop := -1000000 ≤ x.left ∧ x.right ≤ 1000000
theorem wid_bound {l r : Int} (h1 : -1000000 ≤ l) (h2 : r ≤ 1000000) : 0 ≤ wid l r ∧ wid l r ≤ 2000000 := by unfold wid; split <;> omega

theorem width_fn {h : Heap} (row l r : Int) (h1 : -1000000 ≤ l) (h2 : r ≤ 1000000) : FnS Try.prog 17 [.agg #[.int .i64 row, .int .i64 l, .int .i64 r]] h fun u h' => u = .int .i64 (wid l r) ∧ Ext h h' := by
  refine FnS.intro Try.func17 rfl rfl rfl ?_
  refine Sat.seq ?_
  refine Sat.region rfl ?_
  obtain ⟨hA, eA⟩ : ∃ hA, hA = h.push (.cells #[.int .i64 row, .int .i64 l, .int .i64 r] 35) := ⟨_, rfl⟩
  have xA : Ext h hA := by rw [eA]; exact Ext.push h _
  have bA : Blk hA h.size 35 #[.int .i64 row, .int .i64 l, .int .i64 r] := by rw [eA]; exact Blk.new h _ _
  refine Sat.at (h' := hA) (by rw [eA]; rfl) ?_
  refine Sat.seq ?_
  refine Sat.seq ?_
  refine Sat.region rfl ?_
  refine ⟨by decide, .int .i64 r, bA.cell 2, by decide, .int .i64 l, bA.cell 1, rfl, fun h3 => ?_, fun h3 => ?_⟩
  · refine Sat.cond ?_
    refine Sat.seq ?_
    refine Sat.region rfl ?_
    refine Sat.ret ?_
    exact ⟨by unfold wid; rw [if_pos h3], xA⟩
  · refine Sat.cond ?_
    refine Sat.skip ?_
    refine Sat.seq ?_
    refine Sat.region rfl ?_
    refine ⟨by decide, .int .i64 r, bA.cell 2, by decide, .int .i64 l, bA.cell 1, rfl, r - l, wrap_i64 (by omega) (by omega), ?_⟩
    refine Sat.ret ?_
    exact ⟨by unfold wid; rw [if_neg (by omega)], xA⟩

def firstNZ : List Int → Int
  | [] => 0
  | x :: r => if x = 0 then firstNZ r else x
theorem firstNZ_drop {xs : List Int} {i : Nat} (h : ∀ j, j < i → xs.getD j 0 = 0) : firstNZ xs = firstNZ (xs.drop i) := by
  induction i generalizing xs with
  | zero => rfl
  | succ i ih =>
    cases xs with
    | nil => rfl
    | cons x r =>
      have h0 : x = 0 := h 0 (by omega)
      subst h0
      simp only [firstNZ, if_true, List.drop_succ_cons]
      exact ih fun j hj => by have := h (j + 1) (by omega); simpa using this

theorem or_fn {h : Heap} {g c : Nat} (xs : List Int) (hlen : xs.length ≤ 100) (hrow : Row h ⟨g, 0, none⟩ (xs.map (.int .i64 ·))) : FnS Try.prog 89 [.slice (some ⟨g, 0, none⟩) xs.length c] h fun u h' => u = .int .i64 (firstNZ xs) ∧ h' = h := by
  refine FnS.intro Try.func89 rfl rfl rfl ?_
  refine Sat.seq ?_
  refine Sat.region rfl ?_
  refine Sat.seq ?_
  refine Sat.region rfl ?_
  refine Sat.seq ?_
  refine Sat.seq ?_
  refine Sat.region rfl ?_
  refine Sat.block ?_
  refine Sat.loop (X := Nat) (fun i => [(3, .int .i64 0), (6, .slice (some ⟨g, 0, none⟩) xs.length c), (7, .int .i64 (xs.length : Int)), (8, .int .i64 (i : Int))]) (fun i h' => h' = h ∧ i ≤ xs.length ∧ ∀ j, j < i → xs.getD j 0 = 0) (fun i => xs.length - i) 0
    ⟨rfl, rfl, rfl, rfl, trivial⟩ ⟨rfl, Nat.zero_le _, fun j hj => by omega⟩ ?_
  rintro i h1 ⟨rfl, hi, hz⟩
  refine Sat.seq ?_
  refine Sat.region rfl ?_
  refine ⟨rfl, fun h2 => ?_, fun h2 => ?_⟩
  rotate_left
  · refine Sat.seq ?_
    refine Sat.cond ?_
    refine Sat.exit ?_
    refine Sat.seq ?_
    refine Sat.region rfl ?_
    refine Sat.ret ?_
    refine ⟨?_, rfl⟩
    have : i = xs.length := by omega
    rw [firstNZ_drop hz, this, List.drop_length]
    rfl
  have hil : i < xs.length := by omega
  have cel : cellH h1 ((⟨g, 0, none⟩ : Addr).add (i * 1)) = some (.int .i64 (xs[i])) := by
    rw [Nat.mul_one]
    exact hrow i _ (by rw [List.getElem?_map, List.getElem?_eq_getElem hil]; rfl)
  refine Sat.seq ?_
  refine Sat.cond ?_
  refine Sat.skip ?_
  refine Sat.seq ?_
  refine Sat.block ?_
  refine Sat.seq ?_
  refine Sat.region rfl ?_
  refine ⟨⟨g, 0, none⟩, i, rfl, rfl, hil, _, cel, ?_⟩
  refine Sat.seq ?_
  refine Sat.region rfl ?_
  refine ⟨rfl, fun h3 => ?_, fun h3 => ?_⟩
  · refine Sat.cond ?_
    refine Sat.seq ?_
    refine Sat.region rfl ?_
    refine Sat.ret ?_
    refine ⟨?_, rfl⟩
    rw [firstNZ_drop hz, List.drop_eq_getElem_cons hil, firstNZ, if_neg h3]
  · refine Sat.cond ?_
    refine Sat.skip ?_
    refine Sat.region rfl ?_
    refine ⟨rfl, ((i + 1 : Nat) : Int), by rw [wrap_i64 (by omega) (by omega)]; omega, ?_⟩
    refine ⟨i + 1, ⟨rfl, rfl, rfl, rfl, trivial⟩, ⟨rfl, hil, fun j hj => ?_⟩, by omega⟩
    by_cases e : j = i
    · subst e
      rw [List.getD_eq_getElem?_getD, List.getElem?_eq_getElem hil]
      simpa using h3
    · exact hz j (by omega)
end Go.Proofs.Ytobjkcmiicflmaa
