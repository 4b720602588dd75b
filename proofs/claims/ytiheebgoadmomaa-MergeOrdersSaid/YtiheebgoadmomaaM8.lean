/- awake; MergeRises. -/
import Derived.Test.YtiheebgoadmomaaM7
set_option maxRecDepth 100000
set_option linter.unusedVariables false
namespace Go.Proofs.Ytiheebgoadmomaa
open Go Go.V Go.V.Heaps

def it (k : Int) : It := ⟨k, 0, [], 0, 0, false, false, 0, 0⟩
def nilS : Value := .slice none 0 0
theorem it_bytes (h : Heap) (k : Int) : BytesAt h nilS (it k).data := ⟨none, 0, rfl, Nat.le_refl _, .inl rfl⟩
theorem awake_merges : Merges It.at_ [[it 1, it 5], [it 1, it 2]] [(it 1, 0), (it 1, 1), (it 2, 1), (it 5, 0)] := by
  have two : ∀ {a b : List It} {j : Nat} {l : List It}, [a, b][j]? = some l → (j = 0 ∧ l = a) ∨ (j = 1 ∧ l = b) := fun {a b j l} h => by
    match j, h with
    | 0, h => exact .inl ⟨rfl, by simpa using h.symm⟩
    | 1, h => exact .inr ⟨rfl, by simpa using h.symm⟩
    | j + 2, h => simp at h
  refine .step (i := 0) ⟨it 1, [it 5], rfl, fun j y s hj => ?_⟩ rfl ?_
  · rcases two hj with ⟨rfl, e⟩ | ⟨rfl, e⟩ <;> (injection e with e _; subst e; simp [it])
  refine .step (i := 1) ⟨it 1, [it 2], rfl, fun j y s hj => ?_⟩ rfl ?_
  · rcases two hj with ⟨rfl, e⟩ | ⟨rfl, e⟩ <;> (injection e with e _; subst e; simp [it])
  refine .step (i := 1) ⟨it 2, [], rfl, fun j y s hj => ?_⟩ rfl ?_
  · rcases two hj with ⟨rfl, e⟩ | ⟨rfl, e⟩ <;> (injection e with e _; subst e; simp [it])
  refine .step (i := 0) ⟨it 5, [], rfl, fun j y s hj => ?_⟩ rfl ?_
  · rcases two hj with ⟨rfl, e⟩ | ⟨rfl, e⟩
    · injection e with e _; subst e; simp [it]
    · cases e
  refine .done fun i l hl => ?_
  rcases two hl with ⟨_, e⟩ | ⟨_, e⟩ <;> exact e

theorem lit2 {h : Heap} (a b : Int) : Own (h.push (.cells (itC (it a) nilS ++ itC (it b) nilS).toArray 37)) h.size 37 9 (.slice (some ⟨h.size, 0, none⟩) 2 2) 2 ([(it a, nilS), (it b, nilS)].flatMap encI) :=
  ⟨rfl, .inr ⟨h.size, 2, _, rfl, Nat.le_refl _, Blk.new h 37 _, Nat.le_refl _, by decide, rfl, rfl⟩⟩

theorem awake_fn {h : Heap} : FnS Try.prog 5 [] h fun u h' => u = .bool true ∧ Ext h h' := by
  refine FnS.intro Try.func5 rfl rfl rfl ?_
  refine Sat.seq ?_
  refine Sat.region rfl ?_
  refine Sat.seq ?_
  refine Sat.region rfl ?_
  refine build_strct rfl rfl rfl (cells := (itC (it 1) nilS).toArray) (by kernel_rfl) ?_
  refine build_strct rfl rfl rfl (cells := (itC (it 5) nilS).toArray) (by kernel_rfl) ?_
  refine lit_some i49 rfl rfl (cells := (itC (it 1) nilS ++ itC (it 5) nilS).toArray) (by kernel_rfl) ?_
  obtain ⟨hA, eA⟩ : ∃ hA, hA = h.push (.cells (itC (it 1) nilS ++ itC (it 5) nilS).toArray 37) := ⟨_, rfl⟩
  have xA : Ext h hA := by rw [eA]; exact Ext.push h _
  have oA : Own hA h.size 37 9 (.slice (some ⟨h.size, 0, none⟩) 2 2) 2 ([(it 1, nilS), (it 5, nilS)].flatMap encI) := by rw [eA]; exact lit2 1 5
  rw [← eA]
  refine build_strct rfl rfl rfl (cells := (itC (it 1) nilS).toArray) (by kernel_rfl) ?_
  refine build_strct rfl rfl rfl (cells := (itC (it 2) nilS).toArray) (by kernel_rfl) ?_
  refine lit_some i49 rfl rfl (cells := (itC (it 1) nilS ++ itC (it 2) nilS).toArray) (by kernel_rfl) ?_
  obtain ⟨hB, eB⟩ : ∃ hB, hB = hA.push (.cells (itC (it 1) nilS ++ itC (it 2) nilS).toArray 37) := ⟨_, rfl⟩
  have xB : Ext hA hB := by rw [eB]; exact Ext.push hA _
  have oB : Own hB hA.size 37 9 (.slice (some ⟨hA.size, 0, none⟩) 2 2) 2 ([(it 1, nilS), (it 2, nilS)].flatMap encI) := by rw [eB]; exact lit2 1 2
  rw [← eB]
  refine lit_some i33 rfl rfl (cells := #[.slice (some ⟨h.size, 0, none⟩) 2 2, .slice (some ⟨hA.size, 0, none⟩) 2 2]) (by kernel_rfl) ?_
  obtain ⟨hC, eC⟩ : ∃ hC, hC = hB.push (.cells #[.slice (some ⟨h.size, 0, none⟩) 2 2, .slice (some ⟨hA.size, 0, none⟩) 2 2] 49) := ⟨_, rfl⟩
  have xC : Ext hB hC := by rw [eC]; exact Ext.push hB _
  have oC : Own hC hB.size 49 1 (.slice (some ⟨hB.size, 0, none⟩) 2 2) 2 ([(.slice (some ⟨h.size, 0, none⟩) 2 2, [(it 1, nilS), (it 5, nilS)]), (.slice (some ⟨hA.size, 0, none⟩) 2 2, [(it 1, nilS), (it 2, nilS)])].map (·.1)) := by
    rw [eC]
    exact ⟨rfl, .inr ⟨hB.size, 2, _, rfl, Nat.le_refl _, Blk.new hB 49 _, Nat.le_refl _, by decide, rfl, rfl⟩⟩
  rw [← eC]
  have hs : SrcsV hC (.slice (some ⟨hB.size, 0, none⟩) 2 2) [[it 1, it 5], [it 1, it 2]] := by
    refine srcs_of (e' := 37) (base := 0) (oC.mono (Nat.zero_le _)) rfl fun o ho => ?_
    simp only [List.mem_cons, List.not_mem_nil, or_false] at ho
    rcases ho with rfl | rfl
    · refine ⟨(oA.ext (xB.trans xC)).mono (Nat.zero_le _), fun y hy => ?_⟩
      simp only [List.mem_cons, List.not_mem_nil, or_false] at hy
      rcases hy with rfl | rfl <;> exact it_bytes _ _
    · refine ⟨(oB.ext xC).mono (Nat.zero_le _), fun y hy => ?_⟩
      simp only [List.mem_cons, List.not_mem_nil, or_false] at hy
      rcases hy with rfl | rfl <;> exact it_bytes _ _
  refine (merge_fn hs (by decide) (by decide) ?_).mono ?_
  · intro l hl x hx
    simp only [List.mem_cons, List.not_mem_nil, or_false] at hl
    rcases hl with rfl | rfl <;> (simp only [List.mem_cons, List.not_mem_nil, or_false] at hx; rcases hx with rfl | rfl <;> simp [it])
  rintro u hD ⟨xD, outs, oD, _, hm⟩
  have he := Merges.unique It.at_ hm awake_merges
  match outs, he with
  | [(_, d1, _), (_, d2, _), (_, d3, _), (_, d4, _)], he =>
    simp only [List.map_cons, List.map_nil, List.cons.injEq, Prod.mk.injEq, and_true] at he
    obtain ⟨⟨rfl, rfl⟩, ⟨rfl, rfl⟩, ⟨rfl, rfl⟩, rfl, rfl⟩ := he
    obtain ⟨g, c, rfl, _, _, hrow, _⟩ := oD.ptr (by simp)
    have c0 := hrow.elem plC_len (k := 0) rfl
    have c1 := hrow.elem plC_len (k := 1) rfl
    have c2 := hrow.elem plC_len (k := 2) rfl
    have c3 := hrow.elem plC_len (k := 3) rfl
    refine Sat.seq ?_
    refine Sat.region rfl ?_
    refine ⟨rfl, fun _ => ?_, fun h => absurd rfl h⟩
    refine ⟨⟨g, 0, none⟩, 0, rfl, rfl, by simp, by decide, .int .i64 0, c0 9 _ rfl, rfl, fun _ => ?_, fun h => absurd rfl h⟩
    refine ⟨⟨g, 0, none⟩, 1, rfl, rfl, by simp, by decide, .int .i64 1, c1 9 _ rfl, rfl, fun _ => ?_, fun h => absurd rfl h⟩
    refine ⟨⟨g, 0, none⟩, 2, rfl, rfl, by simp, by decide, .int .i64 1, c2 9 _ rfl, rfl, fun _ => ?_, fun h => absurd rfl h⟩
    refine ⟨⟨g, 0, none⟩, 2, rfl, rfl, by simp, by decide, by decide, .int .i64 2, c2 0 _ rfl, rfl, fun _ => ?_, fun h => absurd rfl h⟩
    refine ⟨⟨g, 0, none⟩, 3, rfl, rfl, by simp, by decide, by decide, .int .i64 5, c3 0 _ rfl, rfl, fun _ => ?_, fun h => absurd rfl h⟩
    refine Sat.ret ?_
    exact ⟨rfl, ((xA.trans xB).trans xC).trans xD⟩

end Go.Proofs.Ytiheebgoadmomaa
