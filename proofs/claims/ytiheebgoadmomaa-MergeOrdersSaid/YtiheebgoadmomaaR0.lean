/- The argument: lists of items. -/
import Derived.Test.YtiheebgoadmomaaM9
import Derived.Test.YtiheebgoadmomaaV8
set_option maxRecDepth 100000
set_option linter.unusedVariables false
namespace Go.Proofs.Ytiheebgoadmomaa
open Go Go.V Go.V.Heaps

section
variable {H : Type} {enc : TypeId × Value → H} {w : World} {sp : Nat → Bool} {held : Bool}

theorem open_item {n : Nat} {cs : List Value} {y : DataW H × List MemPlace} (h : DataW.trod enc Try.prog w 0 sp held n 30 cs = some y) : ∃ x dv, cs = itC x dv ∧ BytesAt w.heap dv x.data := by
  obtain ⟨hl, hf⟩ := open_field (c := 9) Try.underlying30 (by kernel_rfl) h
  match cs, hl with
  | [c0, c1, c2, c3, c4, c5, c6, c7, c8], _ =>
    have e3 : Try.prog.cellsOf 3 = 1 := by kernel_rfl
    have e26 : Try.prog.cellsOf 26 = 1 := by kernel_rfl
    have e28 : Try.prog.cellsOf 28 = 4 := by kernel_rfl
    have e5 : Try.prog.cellsOf 5 = 1 := by kernel_rfl
    have e4 : Try.prog.cellsOf 4 = 1 := by kernel_rfl
    obtain ⟨_, _, f0⟩ := hf 0 3 0 1 rfl e3
    obtain ⟨_, _, f1⟩ := hf 1 3 1 1 rfl e3
    obtain ⟨_, _, f2⟩ := hf 2 26 2 1 rfl e26
    obtain ⟨_, _, f3⟩ := hf 3 28 3 4 rfl e28
    obtain ⟨_, _, f4⟩ := hf 4 3 7 1 rfl e3
    obtain ⟨_, _, f5⟩ := hf 5 3 8 1 rfl e3
    obtain ⟨n0, a0, _⟩ := DataW.trod_int Try.underlying3 f0
    obtain ⟨n1, a1, _⟩ := DataW.trod_int Try.underlying3 f1
    obtain ⟨bs, hb, _⟩ := open_bytesAt Try.underlying26 Try.underlying5 (by kernel_rfl) f2
    obtain ⟨n4, a4, _⟩ := DataW.trod_int Try.underlying3 f4
    obtain ⟨n5, a5, _⟩ := DataW.trod_int Try.underlying3 f5
    obtain ⟨_, hg⟩ := open_field (c := 4) Try.underlying28 (by kernel_rfl) f3
    obtain ⟨_, _, g0⟩ := hg 0 3 0 1 rfl e3
    obtain ⟨_, _, g1⟩ := hg 1 5 1 1 rfl e5
    obtain ⟨_, _, g2⟩ := hg 2 4 2 1 rfl e4
    obtain ⟨_, _, g3⟩ := hg 3 4 3 1 rfl e4
    obtain ⟨m0, b0, _⟩ := DataW.trod_int Try.underlying3 g0
    obtain ⟨m1, b1, _⟩ := DataW.trod_int Try.underlying5 g1
    obtain ⟨m2, b2, _⟩ := DataW.trod_bool Try.underlying4 g2
    obtain ⟨m3, b3, _⟩ := DataW.trod_bool Try.underlying4 g3
    injection a0 with a0
    injection a1 with a1
    injection a4 with a4
    injection a5 with a5
    injection b0 with b0
    injection b1 with b1
    injection b2 with b2
    injection b3 with b3
    subst a0; subst a1; subst a4; subst a5; subst b0; subst b1; subst b2; subst b3
    exact ⟨⟨n0, n1, bs, m0, m1, m2, m3, n4, n5⟩, c2, rfl, hb⟩

theorem list_of {α : Type} {n : Nat} {R : Nat → α → Prop} (h : ∀ i, i < n → ∃ x, R i x) : ∃ l : List α, l.length = n ∧ ∀ i x, l[i]? = some x → R i x := by
  induction n with
  | zero => exact ⟨[], rfl, fun i x h => by cases h⟩
  | succ n ih =>
    obtain ⟨l, hl, hr⟩ := ih fun i hi => h i (by omega)
    obtain ⟨x, hx⟩ := h n (by omega)
    refine ⟨l ++ [x], by simp [hl], fun i y hi => ?_⟩
    by_cases hin : i < n
    · rw [List.getElem?_append_left (by omega)] at hi
      exact hr i y hi
    · have : i < (l ++ [x]).length := (List.getElem?_eq_some_iff.1 hi).1
      rw [List.length_append, List.length_singleton] at this
      have e : i = n := by omega
      subst e
      rw [List.getElem?_append_right (by omega), hl, Nat.sub_self] at hi
      injection hi with hi
      subst hi
      exact hx

theorem open_items {n : Nat} {v : Value} {y : DataW H × List MemPlace} (h : DataW.trod enc Try.prog w 0 sp held n 25 [v] = some y) : ∃ l, ItemsV w.heap v l := by
  obtain ⟨A, len, cap, rfl, hlc, _, hr⟩ := open_elems (c := 9) Try.underlying25 (by kernel_rfl) h
  rcases hr with rfl | ⟨p, rfl, hp⟩
  · exact ⟨[], A, cap, rfl, Nat.zero_le _, .inl rfl⟩
  · obtain ⟨l, hl, hi⟩ := list_of (R := fun i x => ItAt w.heap (p.add (i * 9)) x) fun i hi => by
      obtain ⟨cs, m, y, _, hrow, ht⟩ := hp i hi
      obtain ⟨x, dv, rfl, hb⟩ := open_item ht
      obtain ⟨A', c', e, hc, hr⟩ := hb
      subst e
      exact ⟨x, A', c', hrow, A', c', rfl, hc, hr⟩
    subst hl
    exact ⟨l, some p, cap, rfl, hlc, .inr ⟨p, rfl, hi⟩⟩

theorem open_srcs {v : Value} {d : DataW H} {ps : List MemPlace} (h : DataW.Trod enc Try.prog w 0 sp held 22 v d ps) (hv : ∃ A len cap, v = .slice A len cap) : ∃ ls, SrcsV w.heap v ls := by
  obtain ⟨n, h⟩ := h
  obtain ⟨A0, l0, c0, rfl⟩ := hv
  obtain ⟨A, len, cap, e, hlc, _, hr⟩ := open_elems (v := .slice A0 l0 c0) (c := 1) Try.underlying22 (by kernel_rfl) h
  injection e with e1 e2 e3
  subst e1; subst e2; subst e3
  rcases hr with rfl | ⟨p, rfl, hp⟩
  · exact ⟨[], A0, c0, rfl, Nat.zero_le _, .inl rfl⟩
  · obtain ⟨ls, hl, hi⟩ := list_of (R := fun i l => ∃ vi, cellH w.heap (p.add (i * 1)) = some vi ∧ ItemsV w.heap vi l) fun i hi => by
      obtain ⟨cs, m, y, hcl, hrow, ht⟩ := hp i hi
      match cs, hcl with
      | [c], _ =>
        obtain ⟨l, hl⟩ := open_items ht
        have := hrow 0 c rfl
        rw [add_zero] at this
        exact ⟨l, c, this, hl⟩
    subst hl
    exact ⟨ls, some p, c0, rfl, hlc, .inr ⟨p, rfl, hi⟩⟩
end
end Go.Proofs.Ytiheebgoadmomaa
