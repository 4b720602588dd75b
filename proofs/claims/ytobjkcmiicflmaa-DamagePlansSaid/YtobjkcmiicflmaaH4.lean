/- Down from a place: what is below it is a heap already. -/
import Derived.Test.YtobjkcmiicflmaaH1
set_option linter.unusedVariables false
set_option linter.unusedSectionVars false
namespace Go.V.Heaps
section
variable {α : Type} [Inhabited α] {less : α → α → Bool} {le : α → α → Prop}
theorem down_from (ho : Order less le) (n : Nat) : ∀ (d : Nat) (l : List α) (lo i : Nat), n - i = d → n ≤ l.length → lo ≤ i →
    ((∀ k, 0 < k → k < n → lo ≤ (k - 1) / 2 → (k - 1) / 2 ≠ i → le (at_ l ((k - 1) / 2)) (at_ l k)) ∧ (∀ k, 0 < k → k < n → (k - 1) / 2 = i → 0 < i → lo ≤ (i - 1) / 2 → le (at_ l ((i - 1) / 2)) (at_ l k))) →
    ∀ k, 0 < k → k < n → lo ≤ (k - 1) / 2 → le (at_ (down less l i n).1 ((k - 1) / 2)) (at_ (down less l i n).1 k) := by
  intro d
  induction d using Nat.strongRecOn with
  | _ d ih =>
    intro l lo i hd hn hlo hb
    by_cases h : 2 * i + 1 < n
    · obtain ⟨c1, c2, c3⟩ := child_le less l i n h
      have hc : ∀ k, 0 < k → k < n → (k - 1) / 2 = i → le (at_ l (child less l i n)) (at_ l k) ∨ k = child less l i n := by
        intro k hk hkn hki
        have hk2 : k = 2 * i + 1 ∨ k = 2 * i + 2 := by omega
        unfold child
        by_cases hcond : 2 * i + 2 < n ∧ less (at_ l (2 * i + 2)) (at_ l (2 * i + 1)) = true
        · rw [if_pos hcond]
          rcases hk2 with rfl | rfl
          · exact .inl (ho.ofLess hcond.2)
          · exact .inr rfl
        · rw [if_neg hcond]
          rcases hk2 with rfl | rfl
          · exact .inr rfl
          · left
            refine ho.ofNot ?_
            cases hl : less (at_ l (2 * i + 2)) (at_ l (2 * i + 1)) with
            | false => rfl
            | true => exact absurd ⟨hkn, hl⟩ hcond
      generalize hcj : child less l i n = j at *
      cases hl : less (at_ l j) (at_ l i) with
      | true =>
        have hdn : down less l i n = down less (swp l i j) j n := by rw [down_go less h (by rw [hcj]; exact hl), hcj]
        rw [hdn]
        refine ih _ (by omega) _ lo _ rfl (by rw [swp_length]; omega) (by omega) ⟨fun k hk hkn hkl hkj => ?_, fun k hk hkn hkj hj0 hjl => ?_⟩
        · rw [swp_at l (by omega) (by omega)]
          unfold swpF
          by_cases e1 : k = j
          · subst e1
            rw [if_pos (by omega), if_neg (by omega), if_pos rfl]
            exact ho.ofLess hl
          · by_cases e2 : (k - 1) / 2 = i
            · rw [if_pos e2, if_neg (by omega), if_neg e1]
              exact (hc k hk hkn e2).resolve_right e1
            · by_cases e3 : k = i
              · subst e3
                rw [if_neg (by omega), if_neg (by omega), if_pos rfl]
                exact hb.2 j (by omega) (by omega) (by omega) hk hkl
              · rw [if_neg e2, if_neg hkj, if_neg e3, if_neg e1]
                exact hb.1 k hk hkn hkl e2
        · rw [swp_at l (by omega) (by omega)]
          unfold swpF
          rw [if_pos (by omega), if_neg (by omega), if_neg (by omega)]
          have := hb.1 k hk hkn (by omega) (by omega)
          rw [hkj] at this
          exact this
      | false =>
        rw [down_stop less h (by rw [hcj]; exact hl)]
        intro k hk hkn hkl
        by_cases e : (k - 1) / 2 = i
        · rw [e]
          rcases hc k hk hkn e with h' | h'
          · exact ho.trans (ho.ofNot hl) h'
          · rw [h']; exact ho.ofNot hl
        · exact hb.1 k hk hkn hkl e
    · rw [down_end less h]
      intro k hk hkn hkl
      exact hb.1 k hk hkn hkl (by omega)
end
end Go.V.Heaps
