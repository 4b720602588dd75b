/- Where two lines part, where two pages part. -/
import Derived.Test.YtobjkcmiicflmaaS0
set_option maxRecDepth 100000
set_option linter.unusedVariables false
namespace Go.Proofs.Ytobjkcmiicflmaa
open Go Go.V

theorem eq_cel {xo yo : Operand} (x y : Cel) {F : Value → Prop} (h1 : x = y → F (.bool true)) (h2 : x ≠ y → F (.bool false)) : veqAny Try.prog .eql 44 xo yo (.agg (celC x).toArray) (.agg (celC y).toArray) F := by
  refine eql_agg (b := decide (x = y)) (by kernel_rfl) (by kernel_rfl) ?_ ?_
  · have : eqV Try.prog 10 44 (.agg (celC x).toArray) (.agg (celC y).toArray) = match some (x.glyph == y.glyph) with
      | some true => (match some (x.rend == y.rend) with
        | some true => (match some (x.kept == y.kept) with
          | some true => some true
          | some false => some false
          | none => none)
        | some false => some false
        | none => none)
      | some false => some false
      | none => none := rfl
    rw [this]
    obtain ⟨a, b, c⟩ := x
    obtain ⟨a', b', c'⟩ := y
    simp only [Cel.mk.injEq]
    cases e1 : (a == a') with
    | false => have e1 : a ≠ a' := by simpa using e1
               simp [e1]
    | true =>
      have e1 : a = a' := by simpa using e1
      cases e2 : (b == b') with
      | false => have e2 : b ≠ b' := by simpa using e2
                 simp [e2]
      | true =>
        have e2 : b = b' := by simpa using e2
        cases e3 : (c == c') with
        | false => have e3 : c ≠ c' := by simpa using e3
                   simp [e3]
        | true => have e3 : c = c' := by simpa using e3
                  simp [e1, e2, e3]
  · by_cases e : x = y
    · rw [decide_eq_true e]; exact h1 e
    · rw [decide_eq_false e]; exact h2 e

def rowStep (at_ : Int) (a : List Cel) (out : List Sp) (i : Nat) (c : Cel) : List Sp :=
  if a[i]? = some c then out else match out.getLast? with
    | some s => if s.right = (i : Int) then out.dropLast ++ [⟨s.row, s.left, s.right + 1⟩] else out ++ [⟨at_, i, i + 1⟩]
    | none => out ++ [⟨at_, i, i + 1⟩]
def rowUpto (at_ : Int) (a b : List Cel) : Nat → List Sp
  | 0 => []
  | i + 1 => match b[i]? with
    | some c => rowStep at_ a (rowUpto at_ a b i) i c
    | none => rowUpto at_ a b i
def rowS (at_ : Int) (a b : Ln) : List Sp :=
  if a.size ≠ b.size ∨ a.cells.length ≠ b.cells.length then [⟨at_, 0, b.cells.length⟩] else rowUpto at_ a.cells b.cells b.cells.length
theorem rowStep_length (at_ : Int) (a : List Cel) (out : List Sp) (i : Nat) (c : Cel) : (rowStep at_ a out i c).length ≤ out.length + 1 := by
  unfold rowStep
  split
  · omega
  · split
    · split <;> simp <;> omega
    · simp
theorem rowUpto_length (at_ : Int) (a b : List Cel) : ∀ i, (rowUpto at_ a b i).length ≤ i
  | 0 => by simp [rowUpto]
  | i + 1 => by
    have := rowUpto_length at_ a b i
    unfold rowUpto
    split
    · have := rowStep_length at_ a (rowUpto at_ a b i) i (by assumption); omega
    · omega

theorem over_last (A : List Value) (a b c c' : Value) : overL (A ++ [a, b, c]) (A.length + 2) [c'] = A ++ [a, b, c'] := by
  have h1 : (A ++ [a, b, c]).take (A.length + 2) = A ++ [a, b] := by rw [List.take_length_add_append]; rfl
  have h2 : (A ++ [a, b, c]).drop (A.length + 2 + [c'].length) = [] := by rw [Nat.add_assoc, List.drop_length_add_append]; rfl
  unfold overL
  rw [h1, h2]
  simp

theorem row_fn {h : Heap} {u v : Value} {a b : Ln} {at_ : Int} (hu : LnV h u a) (hv : LnV h v b) (ha : a.cells.length ≤ 1000) (hb : b.cells.length ≤ 1000) :
    FnS Try.prog 28 [.int .i64 at_, u, v] h fun r h' => Ext h h' ∧ Own h' h.size 35 3 r (rowS at_ a b).length ((rowS at_ a b).flatMap spC) := by
  obtain ⟨va, rfl, Aa, ca, rfl, hca, hra⟩ := hu
  obtain ⟨vb, rfl, Ab, cb, rfl, hcb, hrb⟩ := hv
  refine FnS.go Try.func28 rfl rfl rfl rfl ?_
  intro g4 h4 n4 g5 h5 n5
  have x5 := n4.ext.trans n5.ext
  have b4 := n4.blk.ext n5.ext
  have b5 := n5.blk
  have early : (a.size ≠ b.size ∨ a.cells.length ≠ b.cells.length) → Ext h h5 ∧ ∀ (K : Value → Heap → Prop), (∀ g' h', New h5 g' h' 35 (spC ⟨at_, 0, b.cells.length⟩).toArray → K (.slice (some ⟨g', 0, none⟩) 1 1) h') → RunsV Try.prog (Instr.buildSlice 27 1 #[(0, .agg (spC ⟨at_, 0, b.cells.length⟩).toArray)]) h5 K := fun _ =>
    ⟨x5, fun K hK => one_lit i27 (x := .agg (spC ⟨at_, 0, b.cells.length⟩).toArray) rfl hK⟩
  have done : ∀ {g' : Nat} {h' : Heap}, (a.size ≠ b.size ∨ a.cells.length ≠ b.cells.length) → New h5 g' h' 35 (spC ⟨at_, 0, b.cells.length⟩).toArray → Ext h h' ∧ Own h' h.size 35 3 (.slice (some ⟨g', 0, none⟩) 1 1) (rowS at_ a b).length ((rowS at_ a b).flatMap spC) := fun {g' h'} hne n' => by
    have e : rowS at_ a b = [⟨at_, 0, b.cells.length⟩] := by unfold rowS; rw [if_pos hne]
    rw [e]
    refine ⟨x5.trans n'.ext, by simp [spC], .inr ⟨g', 1, _, rfl, by rw [n'.is]; exact x5.1, n'.blk, Nat.le_refl _, by decide, rfl, by simp [spC]⟩⟩
  refine ⟨by decide, _, b4.cell 1, by decide, _, b5.cell 1, rfl, fun h6 => ?_, fun h6 => ?_⟩
  · refine ⟨by decide, _, b5.cell 0, ?_⟩
    refine build_strct rfl rfl rfl (cells := (spC ⟨at_, 0, b.cells.length⟩).toArray) (by kernel_rfl) ?_
    refine (early (.inl h6)).2 _ ?_
    intro g' h' n'
    exact done (.inl h6) n'
  refine ⟨by decide, _, b4.cell 0, by decide, _, b5.cell 0, rfl, fun h7 => ?_, fun h7 => ?_⟩
  · have hne : a.cells.length ≠ b.cells.length := by omega
    refine ⟨by decide, _, b5.cell 0, ?_⟩
    refine build_strct rfl rfl rfl (cells := (spC ⟨at_, 0, b.cells.length⟩).toArray) (by kernel_rfl) ?_
    refine (early (.inr hne)).2 _ ?_
    intro g' h' n'
    exact done (.inr hne) n'
  have hlen : a.cells.length = b.cells.length := by omega
  have erow : rowS at_ a b = rowUpto at_ a.cells b.cells b.cells.length := by unfold rowS; rw [if_neg (by simp [h6, hlen])]
  rw [erow]
  refine St.go ?_
  refine ⟨by decide, _, b5.cell 0, ?_⟩
  refine St.loop (X := Nat × Value) (fun z => [(0, .int .i64 at_), (4, .pointer (some ⟨g4, 0, none⟩)), (7, z.2), (32, .slice Ab b.cells.length cb), (33, .int .i64 (b.cells.length : Int)), (34, .int .i64 (z.1 : Int))])
    (fun z h' => Ext h5 h' ∧ z.1 ≤ b.cells.length ∧ Own h' h5.size 35 3 z.2 (rowUpto at_ a.cells b.cells z.1).length ((rowUpto at_ a.cells b.cells z.1).flatMap spC)) (fun z => b.cells.length - z.1) (0, .slice none 0 0)
    ⟨rfl, rfl, rfl, rfl, rfl, rfl, trivial⟩ ⟨Ext.refl _, Nat.zero_le _, Own.nil _ _ _ _⟩ ?_
  rintro ⟨i, v7⟩ h8 ⟨x8, hi, o8⟩
  simp only at x8 hi o8 ⊢
  refine ⟨rfl, fun h9 => ?_, fun h9 => ?_⟩
  rotate_left
  · have : i = b.cells.length := by omega
    subst this
    exact ⟨x5.trans x8, Own.mono o8 x5.1⟩
  have hil : i < b.cells.length := by omega
  have hbi : b.cells[i]? = some b.cells[i] := List.getElem?_eq_getElem hil
  have hai : a.cells[i]? = some a.cells[i] := List.getElem?_eq_getElem (by omega)
  generalize b.cells[i] = y at hbi
  generalize a.cells[i] = x at hai
  obtain ⟨pb, rfl, hpb⟩ : ∃ p, Ab = some p ∧ Row h p (b.cells.flatMap celC) := by
    rcases hrb with h0 | h0
    · rw [h0] at hil; cases hil
    · exact h0
  obtain ⟨pa, rfl, hpa⟩ : ∃ p, Aa = some p ∧ Row h p (a.cells.flatMap celC) := by
    rcases hra with h0 | h0
    · rw [h0] at hai; cases hai
    · exact h0
  have ry := (hpb.elem celC_len hbi).ext (x5.trans x8)
  have rx := (hpa.elem celC_len hai).ext (x5.trans x8)
  have hul := rowUpto_length at_ a.cells b.cells i
  have hup : rowUpto at_ a.cells b.cells (i + 1) = rowStep at_ a.cells (rowUpto at_ a.cells b.cells i) i y := by rw [rowUpto, hbi]
  refine St.cut (X := Value) (fun v7 => [(0, .int .i64 at_), (4, .pointer (some ⟨g4, 0, none⟩)), (7, v7), (32, .slice (some pb) b.cells.length cb), (33, .int .i64 (b.cells.length : Int)), (34, .int .i64 (i : Int))])
    (fun v7 h' => Ext h5 h' ∧ Own h' h5.size 35 3 v7 (rowUpto at_ a.cells b.cells (i + 1)).length ((rowUpto at_ a.cells b.cells (i + 1)).flatMap spC)) ?_ ?_
  rotate_left
  · rintro v7' h9 ⟨x9, o9⟩
    refine ⟨rfl, ((i + 1 : Nat) : Int), by rw [wrap_i64 (by omega) (by omega)]; omega, ?_⟩
    exact ⟨(i + 1, v7'), ⟨rfl, rfl, rfl, rfl, rfl, rfl, trivial⟩, ⟨x9, hil, o9⟩, by simp only; omega⟩
  rw [hup]
  generalize rowUpto at_ a.cells b.cells i = out at *
  refine ⟨pb, i, rfl, rfl, hil, _, rfl, ry, ?_⟩
  intro g9 h10 n9
  refine ⟨by simp [celC, Value.oneCell'], n9.can rfl, fun h11 p11 => ?_⟩
  have n11 := n9.put p11 rfl
  have x11 := x8.trans n11.ext
  have o11 := o8.ext n11.ext
  have b411 := b4.ext x11
  refine St.drawn .plain (by kernel_rfl) ?_
  refine ⟨_, rfl, n11.row, by decide, _, b411.cell 0, pa, i, rfl, rfl, by omega, _, rfl, rx.ext n11.ext, ?_⟩
  refine eq_cel y x (fun e => ?_) (fun e => ?_)
  · subst e
    refine ⟨v7, ⟨rfl, rfl, rfl, rfl, rfl, rfl, trivial⟩, x11, ?_⟩
    unfold rowStep
    rw [if_pos hai]
    exact o11
  have hst : rowStep at_ a.cells out i y = match out.getLast? with
    | some s => if s.right = (i : Int) then out.dropLast ++ [⟨s.row, s.left, s.right + 1⟩] else out ++ [⟨at_, i, i + 1⟩]
    | none => out ++ [⟨at_, i, i + 1⟩] := by unfold rowStep; rw [if_neg (by rw [hai]; intro e'; injection e' with e'; exact e e'.symm)]
  rw [hst]
  obtain ⟨A7, c7, rfl, hc7⟩ := o8.slice
  refine ⟨rfl, (out.length : Int) - 1, by rw [wrap_i64 (by omega) (by omega)], ?_⟩
  -- one more
  have more : ∀ (Q : Value → Heap → Prop), (∀ v' h', Ext h5 h' → Own h' h5.size 35 3 v' (out ++ [(⟨at_, i, i + 1⟩ : Sp)]).length ((out ++ [(⟨at_, i, i + 1⟩ : Sp)]).flatMap spC) → Q v' h') →
      ∀ g12 h12, New h11 g12 h12 35 (spC ⟨at_, i, i + 1⟩).toArray → RunsV Try.prog (Builtin.append_ #[27, 27] 27 #[.slice A7 out.length c7, .slice (some ⟨g12, 0, none⟩) 1 1]) h12 Q := fun Q hQ g12 h12 n12 => by
    refine append_to i27 (o11.ext n12.ext) (news := spC ⟨at_, i, i + 1⟩) rfl (.inr ⟨_, rfl, n12.row⟩) (one_sp _) (by omega) (by have := x11.1; have := n12.ext.1; omega) ?_
    intro v' h' o' c' _
    refine hQ v' h' ((x11.trans n12.ext).then_new c' fun k hk => (o11.base_le k hk).1) ?_
    simpa using o'
  rcases List.eq_nil_or_concat out with h0 | ⟨init, s, hs⟩
  · have hl0 : out.length = 0 := by rw [h0]; rfl
    have hlast : out.getLast? = none := by rw [h0]; rfl
    rw [hlast]
    simp only
    refine ⟨rfl, fun h12 => absurd h12 (by omega), fun _ => ?_⟩
    refine ⟨rfl, (i : Int) + 1, wrap_i64 (by omega) (by omega), ?_⟩
    refine build_strct rfl rfl rfl (cells := (spC ⟨at_, i, i + 1⟩).toArray) (by kernel_rfl) ?_
    refine one_lit i27 (x := .agg (spC ⟨at_, i, i + 1⟩).toArray) rfl fun g12 h12 n12 => ?_
    refine more _ (fun v' h' x' o' => ?_) g12 h12 n12
    exact ⟨v', ⟨rfl, rfl, rfl, rfl, rfl, rfl, trivial⟩, x', o'⟩
  · have hl : out.length = init.length + 1 := by rw [hs]; simp
    have hlast : out.getLast? = some s := by rw [hs]; simp
    have hdrop : out.dropLast = init := by rw [hs]; simp
    rw [hlast, hdrop]
    simp only
    obtain ⟨g, c', e, _, _, hrow, _⟩ := o11.ptr (by omega)
    injection e with e
    subst e
    have hsi : out[init.length]? = some s := by rw [hs]; simp
    have rs := hrow.elem spC_len hsi
    have hadd : (⟨g, 0, none⟩ : Addr).add (init.length * 3) = ⟨g, init.length * 3, none⟩ := by rw [add_plain, Nat.zero_add]
    have cr : cellH h11 (((⟨g, 0, none⟩ : Addr).add (init.length * 3)).add 2) = some (.int .i64 s.right) := rs 2 _ rfl
    have ei : (out.length : Int) - 1 = (init.length : Int) := by omega
    rw [ei]
    refine ⟨rfl, fun _ => ?_, fun h12 => absurd h12 (by omega)⟩
    refine ⟨⟨g, 0, none⟩, init.length, rfl, rfl, by omega, by decide, _, cr, rfl, fun h12 => ?_, fun h12 => ?_⟩
    · rw [if_pos h12]
      refine ⟨⟨g, 0, none⟩, init.length, rfl, rfl, by omega, by decide, _, cr, rfl, s.right + 1, wrap_i64 (by omega) (by omega), ?_⟩
      refine ⟨⟨g, 0, none⟩, init.length, rfl, rfl, by omega, by decide, ?_⟩
      rw [hadd, add_plain]
      refine ⟨rfl, o11.can (by omega), fun h13 p13 => ?_⟩
      have o13 := o11.over p13 (by simp only [List.length_singleton]; omega)
      have e13 : overL (out.flatMap spC) (init.length * 3 + 2) [Value.int .i64 (s.right + 1)] = (init ++ [(⟨s.row, s.left, s.right + 1⟩ : Sp)]).flatMap spC := by
        have hfl : (init.flatMap spC).length = init.length * 3 := flat_length spC_len init
        rw [hs]
        simp only [List.concat_eq_append, List.flatMap_append, List.flatMap_cons, List.flatMap_nil, List.append_nil]
        rw [← hfl]
        exact over_last _ _ _ _ _
      rw [e13] at o13
      refine ⟨.slice (some ⟨g, 0, none⟩) out.length c7, ⟨rfl, rfl, rfl, rfl, rfl, rfl, trivial⟩, p13.ext x11 (o11.base_le g rfl).1, ?_⟩
      have e14 : (init ++ [(⟨s.row, s.left, s.right + 1⟩ : Sp)]).length = out.length := by simp [hl]
      rw [e14]
      exact o13
    · rw [if_neg h12]
      refine ⟨rfl, (i : Int) + 1, wrap_i64 (by omega) (by omega), ?_⟩
      refine build_strct rfl rfl rfl (cells := (spC ⟨at_, i, i + 1⟩).toArray) (by kernel_rfl) ?_
      refine one_lit i27 (x := .agg (spC ⟨at_, i, i + 1⟩).toArray) rfl fun g12 h13 n12 => ?_
      refine more _ (fun v' h' x' o' => ?_) g12 h13 n12
      exact ⟨v', ⟨rfl, rfl, rfl, rfl, rfl, rfl, trivial⟩, x', o'⟩
end Go.Proofs.Ytobjkcmiicflmaa
