/- Sorting, plainly: what stands in a range, in another order. -/
import Derived.Test.YtobjkcmiicflmaaH1
set_option linter.unusedVariables false
set_option linter.unusedSimpArgs false
set_option linter.unusedSectionVars false
namespace Go.V.Heaps

section
variable {α : Type} [Inhabited α]

/-- The same values; outside of a..b each where it was. -/
structure PO (l l' : List α) (a b : Nat) : Prop where
  perm : l'.Perm l
  out : ∀ i, (i < a ∨ b ≤ i) → at_ l' i = at_ l i
theorem PO.refl (l : List α) (a b : Nat) : PO l l a b := ⟨.refl _, fun _ _ => rfl⟩
theorem PO.trans {l l' l'' : List α} {a b : Nat} (h : PO l l' a b) (k : PO l' l'' a b) : PO l l'' a b := ⟨k.perm.trans h.perm, fun i hi => (k.out i hi).trans (h.out i hi)⟩
theorem PO.mono {l l' : List α} {a b a' b' : Nat} (h : PO l l' a b) (ha : a' ≤ a) (hb : b ≤ b') : PO l l' a' b' := ⟨h.perm, fun i hi => h.out i (by omega)⟩
theorem PO.len {l l' : List α} {a b : Nat} (h : PO l l' a b) : l'.length = l.length := h.perm.length_eq
theorem PO.swp {l : List α} {a b i j : Nat} (hi : a ≤ i ∧ i < b) (hj : a ≤ j ∧ j < b) (hb : b ≤ l.length) : PO l (swp l i j) a b := by
  refine ⟨swp_perm l (by omega) (by omega), fun k hk => ?_⟩
  rw [swp_at l (by omega) (by omega)]
  unfold swpF
  rw [if_neg (by omega), if_neg (by omega)]
theorem PO.mem {l l' : List α} {a b i : Nat} (h : PO l l' a b) (hn : l.Nodup) (hb : b ≤ l.length) (hi : a ≤ i ∧ i < b) : ∃ j, a ≤ j ∧ j < b ∧ at_ l' i = at_ l j := by
  have hlen := h.len
  have hil : i < l'.length := by omega
  have hm : at_ l' i ∈ l := h.perm.mem_iff.1 (List.mem_of_getElem? (at_get hil))
  obtain ⟨j, hj⟩ := List.mem_iff_getElem?.1 hm
  have hjl : j < l.length := (List.getElem?_eq_some_iff.1 hj).1
  refine ⟨j, ?_⟩
  have hjat : at_ l' i = at_ l j := (at_some hj).symm
  by_cases hr : a ≤ j ∧ j < b
  · exact ⟨hr.1, hr.2, hjat⟩
  · exfalso
    have ho := h.out j (by omega)
    rw [← ho] at hjat
    have hn' : l'.Nodup := h.perm.nodup_iff.2 hn
    have := (List.getElem?_inj hil hn').1 (show l'[i]? = l'[j]? by rw [at_get hil, at_get (by omega), hjat])
    omega
theorem PO.all {l l' : List α} {a b : Nat} (h : PO l l' a b) (hn : l.Nodup) (hb : b ≤ l.length) {Q : α → Prop} (hq : ∀ i, a ≤ i → i < b → Q (at_ l i)) : ∀ i, a ≤ i → i < b → Q (at_ l' i) := fun i h1 h2 => by
  obtain ⟨j, h3, h4, e⟩ := h.mem hn hb ⟨h1, h2⟩
  rw [e]; exact hq j h3 h4

variable (key : α → Int)
def SO (l : List α) (a b : Nat) : Prop := ∀ i j, a ≤ i → i < j → j < b → key (at_ l i) ≤ key (at_ l j)
variable {key}
theorem SO.small {l : List α} {a b : Nat} (h : b ≤ a + 1) : SO key l a b := fun i j h1 h2 h3 => by omega
/-- By neighbours. -/
theorem SO.near {l : List α} {a b : Nat} (h : ∀ i, a ≤ i → i + 1 < b → key (at_ l i) ≤ key (at_ l (i + 1))) : SO key l a b := fun i j h1 h2 h3 => by
  obtain ⟨d, rfl⟩ : ∃ d, j = i + 1 + d := ⟨j - (i + 1), by omega⟩
  clear h2
  induction d with
  | zero => exact h i h1 h3
  | succ d ih => exact Int.le_trans (ih (by omega)) (h (i + 1 + d) (by omega) (by omega))
theorem SO.join {l : List α} {a m b : Nat} (h1 : SO key l a m) (h2 : SO key l (m + 1) b) (hl : ∀ i, a ≤ i → i < m → key (at_ l i) ≤ key (at_ l m)) (hr : ∀ i, m < i → i < b → key (at_ l m) ≤ key (at_ l i)) : SO key l a b := fun i j hi hij hj => by
  by_cases c1 : j < m
  · exact h1 i j hi hij c1
  · by_cases c2 : m < i
    · exact h2 i j (by omega) hij hj
    · by_cases c3 : i = m
      · subst c3; exact hr j (by omega) hj
      · by_cases c4 : j = m
        · subst c4; exact hl i hi (by omega)
        · exact Int.le_trans (hl i hi (by omega)) (hr j (by omega) hj)
theorem SO.out {l l' : List α} {a b a' b' : Nat} (h : SO key l a b) (hp : PO l l' a' b') (hd : b ≤ a' ∨ b' ≤ a) : SO key l' a b := fun i j h1 h2 h3 => by
  rw [hp.out i (by omega), hp.out j (by omega)]
  exact h i j h1 h2 h3
end
end Go.V.Heaps
