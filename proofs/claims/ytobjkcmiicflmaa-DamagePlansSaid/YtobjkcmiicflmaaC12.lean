/- Spans: few, own. -/
import Derived.Test.YtobjkcmiicflmaaC11
import Derived.Test.YtobjkcmiicflmaaS0
set_option maxRecDepth 100000
set_option linter.unusedVariables false
namespace Go.Proofs.Ytobjkcmiicflmaa
open Go Go.V Go.V.Heaps

theorem fewS_fn {h : Heap} {v : Value} {ls : List Sp} (hs : SpansV h v ls) : FnS Try.prog 5 [v] h fun u h' => SpansV h u (ls.take 40) ∧ h' = h := by
  obtain ⟨A, c, rfl, hc, hr⟩ := hs
  refine FnS.intro Try.func5 rfl rfl rfl ?_
  refine Sat.seq ?_
  refine Sat.region rfl ?_
  refine Sat.seq ?_
  refine Sat.seq ?_
  refine Sat.region rfl ?_
  refine ⟨rfl, fun h1 => ?_, fun h1 => ?_⟩
  · have h40 : 40 < ls.length := by omega
    refine Sat.cond ?_
    refine Sat.region rfl ?_
    refine ⟨0, 40, c, rfl, rfl, rfl, (fun h => nomatch h), by omega, by omega, Nat.le_refl _, A, 40, c, cut0 _ _ _, rfl, rfl, ?_⟩
    refine Sat.seq ?_
    refine Sat.region rfl ?_
    refine Sat.ret ?_
    have hl : (ls.take 40).length = 40 := by rw [List.length_take]; omega
    refine ⟨⟨A, c, by rw [hl], by omega, hr.imp (fun e => by rw [e]; rfl) fun ⟨p, hp, hi⟩ => ⟨p, hp, fun k x hk => hi k x ?_⟩⟩, rfl⟩
    rw [List.getElem?_take] at hk
    split at hk
    · exact hk
    · cases hk
  · have h40 : ls.length ≤ 40 := by omega
    refine Sat.cond ?_
    refine Sat.skip ?_
    refine Sat.seq ?_
    refine Sat.region rfl ?_
    refine Sat.ret ?_
    rw [List.take_of_length_le h40]
    exact ⟨⟨A, c, rfl, hc, hr⟩, rfl⟩

theorem ownS_fn {h : Heap} {v : Value} {ls : List Sp} (hs : SpansV h v ls) : FnS Try.prog 6 [v] h fun u h' => Ext h h' ∧ Own h' h.size 35 3 u (ls.take 40).length ((ls.take 40).flatMap spC) := by
  obtain ⟨A, c, rfl, hc, hr⟩ := hs
  refine FnS.intro Try.func6 rfl rfl rfl ?_
  refine Sat.seq ?_
  refine Sat.region rfl ?_
  refine Sat.seq ?_
  refine Sat.region rfl ?_
  refine Sat.cut (X := Value) (fun v3 => [(3, v3)]) (fun v3 h' => Ext h h' ∧ Own h' h.size 35 3 v3 (ls.take 40).length ((ls.take 40).flatMap spC)) ?_ ?_
  · refine Sat.seq ?_
    refine Sat.region rfl ?_
    refine Sat.block ?_
    refine Sat.loop (X := Nat × Value) (fun x => [(0, .slice A ls.length c), (3, x.2), (4, .int .i64 (x.1 : Int))]) (fun x h' => Ext h h' ∧ x.1 ≤ ls.length ∧ x.1 ≤ 40 ∧ Own h' h.size 35 3 x.2 x.1 ((ls.take x.1).flatMap spC)) (fun x => 40 - x.1) (0, .slice none 0 0)
      ⟨rfl, rfl, rfl, trivial⟩ ⟨Ext.refl h, Nat.zero_le _, Nat.zero_le _, Own.nil _ _ _ _⟩ ?_
    rintro ⟨i, v3⟩ h1 ⟨x1, hi, hi40, o3⟩
    simp only at x1 hi hi40 o3 ⊢
    have stop : (i = ls.length ∨ i = 40) → Own h1 h.size 35 3 v3 (ls.take 40).length ((ls.take 40).flatMap spC) := fun e => by
      rcases e with rfl | rfl
      · rw [List.take_length] at o3; rw [List.take_of_length_le hi40]; exact o3
      · rw [List.length_take, Nat.min_eq_left hi]; exact o3
    refine Sat.seq ?_
    refine Sat.seq ?_
    refine Sat.region rfl ?_
    refine ⟨rfl, fun h2 => ?_, fun h2 => ?_⟩
    rotate_left
    · refine Sat.cond ?_
      refine Sat.exit ?_
      exact ⟨v3, ⟨rfl, trivial⟩, x1, stop (.inl (by omega))⟩
    refine ⟨rfl, fun h3 => ?_, fun h3 => ?_⟩
    rotate_left
    · refine Sat.cond ?_
      refine Sat.exit ?_
      exact ⟨v3, ⟨rfl, trivial⟩, x1, stop (.inr (by omega))⟩
    have hil : i < ls.length := by omega
    refine Sat.cond ?_
    refine Sat.skip ?_
    obtain ⟨p, rfl, hp⟩ : ∃ p, A = some p ∧ ∀ (k : Nat) x, ls[k]? = some x → Row h (p.add (k * 3)) (spC x) := by
      rcases hr with h0 | h0
      · subst h0; simp at hil
      · exact h0
    have hx := (hp i _ (List.getElem?_eq_getElem hil)).ext x1
    have htk : ls.take (i + 1) = ls.take i ++ [ls[i]] := List.take_succ_eq_append_getElem hil
    generalize ls[i] = x at *
    have q0 := hx 0 _ rfl
    have q1 := hx 1 _ rfl
    have q2 := hx 2 _ rfl
    refine Sat.seq ?_
    refine Sat.block ?_
    refine Sat.drawn (.old h1.size []) rfl (by kernel_rfl) ?_
    refine ⟨p, i, rfl, rfl, hil, by decide, cellH_lt q0, _, q0, p, i, rfl, rfl, hil, by decide, cellH_lt q1, _, q1, p, i, rfl, rfl, hil, by decide, cellH_lt q2, _, q2, ?_⟩
    refine build_strct rfl rfl rfl (cells := (spC x).toArray) (by kernel_rfl) ?_
    refine lit_one i27 (x := .agg (spC x).toArray) rfl ?_
    obtain ⟨hD, eD⟩ : ∃ hD, hD = h1.push (.cells (spC x).toArray 35) := ⟨_, rfl⟩
    have xD : Ext h1 hD := by rw [eD]; exact Ext.push h1 _
    have bD : Blk hD h1.size 35 (spC x).toArray := by rw [eD]; exact Blk.new h1 _ _
    rw [show h1.push (.cells (Value.agg (spC x).toArray).cells 35) = hD from eD.symm]
    refine ⟨xD.2, ?_⟩
    have oD := o3.ext xD
    refine append_to i27 oD (news := spC x) rfl (.inr ⟨_, rfl, bD.row⟩) (one_sp x) (by omega) (by have := x1.1; have := xD.1; omega) ?_
    intro v3' hE oE cE _
    refine Sat.region rfl ?_
    refine ⟨rfl, ((i + 1 : Nat) : Int), by rw [wrap_i64 (by omega) (by omega)]; omega, ?_⟩
    refine ⟨(i + 1, v3'), ⟨rfl, rfl, rfl, trivial⟩, ⟨(x1.trans xD).then_new cE fun k hk => (oD.base_le k hk).1, hil, by simp only; omega, ?_⟩, by simp only; omega⟩
    simp only
    rw [htk, List.flatMap_append]
    simpa using oE
  · rintro v3 h1 ⟨x1, o3⟩
    refine Sat.seq ?_
    refine Sat.region rfl ?_
    refine Sat.ret ?_
    exact ⟨x1, o3⟩
end Go.Proofs.Ytobjkcmiicflmaa
