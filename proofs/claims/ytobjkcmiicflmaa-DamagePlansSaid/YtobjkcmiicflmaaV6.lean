/- Slices whose elements take several cells: a row of them, read and written element by element. -/
import Derived.Test.YtobjkcmiicflmaaV5
set_option linter.unusedVariables false
set_option linter.unusedSimpArgs false
namespace Go.V
open Go

section
variable {α : Type} {enc : α → List Value} {size : Nat}

theorem flat_length (henc : ∀ x, (enc x).length = size) (l : List α) : (l.flatMap enc).length = l.length * size := by
  induction l with
  | nil => simp
  | cons x r ih => simp [List.flatMap_cons, ih, henc, Nat.succ_mul, Nat.add_comm]

theorem flat_drop (henc : ∀ x, (enc x).length = size) : ∀ (l : List α) (k : Nat), (l.flatMap enc).drop (k * size) = (l.drop k).flatMap enc
  | l, 0 => by simp
  | [], k + 1 => by simp
  | x :: r, k + 1 => by
    rw [List.flatMap_cons, List.drop_succ_cons, ← flat_drop henc r k]
    rw [List.drop_append, henc x, Nat.succ_mul]
    rw [List.drop_eq_nil_of_le (by rw [henc]; omega), List.nil_append]
    congr 1
    omega
theorem flat_take (henc : ∀ x, (enc x).length = size) : ∀ (l : List α) (k : Nat), (l.flatMap enc).take (k * size) = (l.take k).flatMap enc
  | l, 0 => by simp
  | [], k + 1 => by simp
  | x :: r, k + 1 => by
    rw [List.flatMap_cons, List.take_succ_cons, List.flatMap_cons, ← flat_take henc r k]
    rw [List.take_append, henc x, Nat.succ_mul, List.take_of_length_le (by rw [henc]; omega)]
    congr 2
    omega
theorem flat_at (henc : ∀ x, (enc x).length = size) {l : List α} {k : Nat} {x : α} (hk : l[k]? = some x) : ((l.flatMap enc).drop (k * size)).take size = enc x := by
  rw [flat_drop henc]
  have hlt : k < l.length := (List.getElem?_eq_some_iff.1 hk).1
  have : l.drop k = x :: l.drop (k + 1) := by
    rw [List.drop_eq_getElem_cons hlt]
    congr 1
    exact (List.getElem?_eq_some_iff.1 hk).2
  rw [this, List.flatMap_cons]
  have h1 := henc x
  rw [List.take_append_of_le_length (by omega), List.take_of_length_le (by omega)]
/-- A row of elements holds each. -/
theorem Row.elem (henc : ∀ x, (enc x).length = size) {h : Heap} {p : Addr} {l : List α} (hr : Row h p (l.flatMap enc)) {k : Nat} {x : α} (hk : l[k]? = some x) : Row h (p.add (k * size)) (enc x) := by
  have := (hr.drop (k * size)).take size
  rwa [flat_at henc hk] at this
theorem Row.of_elems (henc : ∀ x, (enc x).length = size) (h0 : 0 < size) {h : Heap} {p : Addr} {l : List α} (hr : ∀ k x, l[k]? = some x → Row h (p.add (k * size)) (enc x)) : Row h p (l.flatMap enc) := by
  induction l generalizing p with
  | nil => exact Row.nil h p
  | cons x r ih =>
    rw [List.flatMap_cons]
    refine Row.append ?_ ?_
    · have := hr 0 x rfl
      rwa [Nat.zero_mul, add_zero] at this
    · rw [henc x]
      refine ih (p := p.add size) fun k y hk => ?_
      have := hr (k + 1) y (by simpa using hk)
      rw [add_add]
      rwa [Nat.succ_mul, Nat.add_comm (k * size)] at this

theorem flat_set_get (henc : ∀ x, (enc x).length = size) {l : List α} {k : Nat} {x : α} (hk : k < l.length) (i : Nat) :
    ((l.set k x).flatMap enc)[i]? = if k * size ≤ i ∧ i < k * size + size then (enc x)[i - k * size]? else (l.flatMap enc)[i]? := by
  have hs : (l.set k x).flatMap enc = (l.take k).flatMap enc ++ (enc x ++ (l.drop (k + 1)).flatMap enc) := by
    rw [List.set_eq_take_append_cons_drop, if_pos hk, List.flatMap_append, List.flatMap_cons]
  have ho : l.flatMap enc = (l.take k).flatMap enc ++ (enc l[k] ++ (l.drop (k + 1)).flatMap enc) := by
    rw [← List.flatMap_cons, ← List.drop_eq_getElem_cons hk, ← List.flatMap_append, List.take_append_drop]
  have hl : ((l.take k).flatMap enc).length = k * size := by rw [flat_length henc, List.length_take, Nat.min_eq_left (by omega)]
  rw [hs, ho]
  simp only [List.getElem?_append, hl, henc]
  by_cases h1 : i < k * size
  · rw [if_pos h1, if_pos h1, if_neg (by omega)]
  · rw [if_neg h1, if_neg h1]
    by_cases h2 : i - k * size < size
    · rw [if_pos h2, if_pos h2, if_pos (by omega)]
    · rw [if_neg h2, if_neg h2, if_neg (by omega)]

/-- A slice of the call's own, element k written anew. -/
theorem Own.put (henc : ∀ x, (enc x).length = size) {h : Heap} {base e n cap g : Nat} {l : List α} (ho : Own h base e size (.slice (some ⟨g, 0, none⟩) n cap) n (l.flatMap enc)) (hn : l.length = n) {k : Nat} (hk : k < n) (x : α) :
    Own (setRow h ((⟨g, 0, none⟩ : Addr).add (k * size)) (enc x) 0) base e size (.slice (some ⟨g, 0, none⟩) n cap) n ((l.set k x).flatMap enc) := by
  refine ⟨by rw [flat_length henc, List.length_set, hn], ?_⟩
  rcases ho.2 with ⟨hv, _⟩ | ⟨g', cap', cur, hv, hb, hg, hnc, hm, hs, ht⟩
  · cases hv
  · injection hv with h1 h2 h3
    injection h1 with h1
    injection h1 with h1
    subst h1
    subst h3
    have hks : k * size + size ≤ n * size := by rw [← Nat.succ_mul]; exact Nat.mul_le_mul_right _ hk
    have hns : n * size ≤ cap * size := Nat.mul_le_mul_right _ hnc
    rw [add_plain]
    obtain ⟨cs', hb', hsz, hget⟩ := Blk.setRow (p := ⟨g, 0 + k * size, none⟩) (g := g) (t := e) rfl rfl (enc x) 0 (h := h) (cs := cur) hg (by rw [henc]; simp only; omega)
    refine .inr ⟨g, cap, cs', rfl, hb, hb', hnc, hm, by rw [hsz, hs], ?_⟩
    apply List.ext_getElem?
    intro i
    rw [flat_set_get henc (by omega) i, ← ht]
    simp only [List.getElem?_take, Array.getElem?_toList]
    have hg' := hget i
    simp only [henc, Nat.zero_add, Nat.add_zero] at hg'
    rw [hg']
    by_cases h1 : k * size ≤ i ∧ i < k * size + size
    · rw [if_pos h1, if_pos h1, if_pos (by omega)]
    · rw [if_neg h1, if_neg h1]
/-- A slice of the call's own, cut at its end. -/
theorem Own.cut (henc : ∀ x, (enc x).length = size) {h : Heap} {base e n cap g : Nat} {l : List α} (ho : Own h base e size (.slice (some ⟨g, 0, none⟩) n cap) n (l.flatMap enc)) (hn : l.length = n) {k : Nat} (hk : k ≤ n) :
    Own h base e size (.slice (some ⟨g, 0, none⟩) k cap) k ((l.take k).flatMap enc) := by
  refine ⟨by rw [flat_length henc, List.length_take, Nat.min_eq_left (by omega)], ?_⟩
  rcases ho.2 with ⟨hv, _⟩ | ⟨g', cap', cur, hv, hb, hg, hnc, hm, hs, ht⟩
  · cases hv
  · injection hv with h1 h2 h3
    injection h1 with h1
    injection h1 with h1
    subst h1
    subst h3
    refine .inr ⟨g, cap, cur, rfl, hb, hg, by omega, hm, hs, ?_⟩
    rw [← flat_take henc, ← ht, List.take_take, Nat.min_eq_left (Nat.mul_le_mul_right _ hk)]
/-- Element k's cells, there and not frozen. -/
theorem Own.cells (henc : ∀ x, (enc x).length = size) {h : Heap} {base e n cap g : Nat} {l : List α} (ho : Own h base e size (.slice (some ⟨g, 0, none⟩) n cap) n (l.flatMap enc)) (hn : l.length = n) {k : Nat} (hk : k < n) :
    ∀ j, j < size → (∃ u, cellH h (((⟨g, 0, none⟩ : Addr).add (k * size)).add j) = some u) ∧ frozenH h (((⟨g, 0, none⟩ : Addr).add (k * size)).add j) = false := by
  intro j hj
  rcases ho.2 with ⟨hv, _⟩ | ⟨g', cap', cur, hv, hb, hg, hnc, hm, hs, ht⟩
  · cases hv
  · injection hv with h1 h2 h3
    injection h1 with h1
    injection h1 with h1
    subst h1
    subst h3
    have hks : k * size + size ≤ n * size := by rw [← Nat.succ_mul]; exact Nat.mul_le_mul_right _ hk
    have hns : n * size ≤ cap * size := Nat.mul_le_mul_right _ hnc
    rw [add_plain, add_plain]
    have hb' : Blk h g e cur := hg
    rw [hb'.cell, hb'.free]
    refine ⟨⟨cur[0 + k * size + j]'(by omega), Array.getElem?_eq_getElem (by omega)⟩, rfl⟩
end
end Go.V
