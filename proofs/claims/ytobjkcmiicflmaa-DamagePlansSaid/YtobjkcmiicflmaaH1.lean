/- Heaps as lists: what container/heap's up and down do, and that what they leave is a heap. Plain. -/
set_option linter.unusedVariables false
set_option linter.unusedSimpArgs false
namespace Go.V.Heaps

section
variable {α : Type} [Inhabited α]

def swp (l : List α) (i j : Nat) : List α := (l.set i (l.getD j default)).set j (l.getD i default)
theorem swp_length (l : List α) (i j : Nat) : (swp l i j).length = l.length := by simp [swp]
def swpF (g : Nat → α) (i j k : Nat) : α := if k = i then g j else if k = j then g i else g k
theorem swp_get (l : List α) {i j : Nat} (hi : i < l.length) (hj : j < l.length) (k : Nat) : (swp l i j)[k]? = if k = i then l[j]? else if k = j then l[i]? else l[k]? := by
  unfold swp
  simp only [List.getD_eq_getElem?_getD, List.getElem?_set, List.length_set]
  have ei : l[i]? = some l[i] := List.getElem?_eq_getElem hi
  have ej : l[j]? = some l[j] := List.getElem?_eq_getElem hj
  by_cases h1 : j = k
  · subst h1
    by_cases h2 : j = i
    · subst h2; simp [hj]
    · simp [hj, h2, ei]
  · by_cases h2 : i = k
    · subst h2; simp [hi, h1, ej]
    · rw [if_neg h1, if_neg h2, if_neg (fun e => h2 e.symm), if_neg (fun e => h1 e.symm)]
def at_ (l : List α) (k : Nat) : α := l.getD k default
theorem at_some {l : List α} {k : Nat} {a : α} (h : l[k]? = some a) : at_ l k = a := by simp [at_, List.getD_eq_getElem?_getD, h]
theorem at_get {l : List α} {k : Nat} (h : k < l.length) : l[k]? = some (at_ l k) := by simp [at_, List.getD_eq_getElem?_getD, h]
theorem swp_at (l : List α) {i j : Nat} (hi : i < l.length) (hj : j < l.length) : at_ (swp l i j) = swpF (at_ l) i j := by
  funext k
  unfold at_ swpF
  simp only [List.getD_eq_getElem?_getD]
  rw [swp_get l hi hj k]
  split
  · rfl
  · split <;> rfl
theorem swp_perm (l : List α) {i j : Nat} (hi : i < l.length) (hj : j < l.length) : (swp l i j).Perm l := by
  have h1 : l.getD j default = l[j] := by simp [List.getD_eq_getElem?_getD, hj]
  have h2 : l.getD i default = l[i] := by simp [List.getD_eq_getElem?_getD, hi]
  unfold swp
  rw [h1, h2]
  exact List.set_set_perm hi hj

variable (less : α → α → Bool)
/-- heap.up from place j. -/
def up (l : List α) (j : Nat) : List α :=
  if j = 0 then l else if less (at_ l j) (at_ l ((j - 1) / 2)) then up (swp l ((j - 1) / 2) j) ((j - 1) / 2) else l
termination_by j
decreasing_by omega
/-- The child that comes first. -/
def child (l : List α) (i n : Nat) : Nat := if 2 * i + 2 < n ∧ less (at_ l (2 * i + 2)) (at_ l (2 * i + 1)) = true then 2 * i + 2 else 2 * i + 1
theorem child_le (l : List α) (i n : Nat) (h : 2 * i + 1 < n) : i < child less l i n ∧ child less l i n < n ∧ (child less l i n = 2 * i + 1 ∨ child less l i n = 2 * i + 2) := by
  unfold child
  split <;> omega
/-- heap.down from place i, of the first n; the place where it ends. -/
def down (l : List α) (i n : Nat) : List α × Nat :=
  if h : 2 * i + 1 < n then
    if less (at_ l (child less l i n)) (at_ l i) then down (swp l i (child less l i n)) (child less l i n) n else (l, i)
  else (l, i)
termination_by n - i
decreasing_by have := child_le less l i n h; omega

theorem up_zero (l : List α) : up less l 0 = l := by rw [up]; simp
theorem up_stop {l : List α} {j : Nat} (h : less (at_ l j) (at_ l ((j - 1) / 2)) = false) : up less l j = l := by rw [up]; split <;> simp_all
theorem up_go {l : List α} {j : Nat} (h0 : j ≠ 0) (h : less (at_ l j) (at_ l ((j - 1) / 2)) = true) : up less l j = up less (swp l ((j - 1) / 2) j) ((j - 1) / 2) := by rw [up, if_neg h0, if_pos h]
theorem down_end {l : List α} {i n : Nat} (h : ¬ 2 * i + 1 < n) : down less l i n = (l, i) := by rw [down, dif_neg h]
theorem down_stop {l : List α} {i n : Nat} (h1 : 2 * i + 1 < n) (h : less (at_ l (child less l i n)) (at_ l i) = false) : down less l i n = (l, i) := by rw [down, dif_pos h1]; simp [h]
theorem down_go {l : List α} {i n : Nat} (h1 : 2 * i + 1 < n) (h : less (at_ l (child less l i n)) (at_ l i) = true) : down less l i n = down less (swp l i (child less l i n)) (child less l i n) n := by rw [down, dif_pos h1, if_pos h]

theorem up_length (l : List α) (j : Nat) : (up less l j).length = l.length := by
  induction j using Nat.strongRecOn generalizing l with
  | _ j ih =>
    rw [up]
    split
    · rfl
    · split
      · rw [ih _ (by omega), swp_length]
      · rfl
theorem up_perm (l : List α) (j : Nat) (hj : j < l.length) : (up less l j).Perm l := by
  induction j using Nat.strongRecOn generalizing l with
  | _ j ih =>
    rw [up]
    split
    · exact .refl _
    · split
      · exact (ih _ (by omega) _ (by rw [swp_length]; omega)).trans (swp_perm l (by omega) hj)
      · exact .refl _
theorem down_length (n : Nat) : ∀ (d : Nat) (l : List α) (i : Nat), n - i = d → (down less l i n).1.length = l.length := by
  intro d
  induction d using Nat.strongRecOn with
  | _ d ih =>
    intro l i hd
    by_cases h : 2 * i + 1 < n
    · have := child_le less l i n h
      cases hl : less (at_ l (child less l i n)) (at_ l i) with
      | true => rw [down_go less h hl, ih _ (by omega) _ _ rfl, swp_length]
      | false => rw [down_stop less h hl]
    · rw [down_end less h]
theorem down_perm (n : Nat) : ∀ (d : Nat) (l : List α) (i : Nat), n - i = d → n ≤ l.length → (down less l i n).1.Perm l := by
  intro d
  induction d using Nat.strongRecOn with
  | _ d ih =>
    intro l i hd hn
    by_cases h : 2 * i + 1 < n
    · have := child_le less l i n h
      cases hl : less (at_ l (child less l i n)) (at_ l i) with
      | true => rw [down_go less h hl]; exact (ih _ (by omega) _ _ rfl (by rw [swp_length]; omega)).trans (swp_perm l (by omega) (by omega))
      | false => rw [down_stop less h hl]
    · rw [down_end less h]
theorem down_keep (n : Nat) (k : Nat) (hk : n ≤ k) : ∀ (d : Nat) (l : List α) (i : Nat), n - i = d → n ≤ l.length → (down less l i n).1[k]? = l[k]? := by
  intro d
  induction d using Nat.strongRecOn with
  | _ d ih =>
    intro l i hd hn
    by_cases h : 2 * i + 1 < n
    · have := child_le less l i n h
      cases hl : less (at_ l (child less l i n)) (at_ l i) with
      | true =>
        rw [down_go less h hl, ih _ (by omega) _ _ rfl (by rw [swp_length]; omega), swp_get l (by omega) (by omega), if_neg (by omega), if_neg (by omega)]
      | false => rw [down_stop less h hl]
    · rw [down_end less h]

/-! ### what they leave is a heap -/
variable (le : α → α → Prop)
structure Order : Prop where
  trans : ∀ {a b c}, le a b → le b c → le a c
  ofLess : ∀ {a b}, less a b = true → le a b
  ofNot : ∀ {a b}, less a b = false → le b a

def HO (l : List α) (n : Nat) : Prop := ∀ k, 0 < k → k < n → le (at_ l ((k - 1) / 2)) (at_ l k)
/-- A heap but for the edges below i; what stands above i comes ahead of what stands below it. -/
def HBut (l : List α) (n i : Nat) : Prop :=
  (∀ k, 0 < k → k < n → (k - 1) / 2 ≠ i → le (at_ l ((k - 1) / 2)) (at_ l k)) ∧ (∀ k, 0 < i → 0 < k → k < n → (k - 1) / 2 = i → le (at_ l ((i - 1) / 2)) (at_ l k))
/-- A heap but for the edge above j. -/
def HUp (l : List α) (n j : Nat) : Prop :=
  (∀ k, 0 < k → k < n → k ≠ j → le (at_ l ((k - 1) / 2)) (at_ l k)) ∧ (∀ k, 0 < j → 0 < k → k < n → (k - 1) / 2 = j → le (at_ l ((j - 1) / 2)) (at_ l k))

variable {less le}
theorem down_heap (ho : Order less le) (n : Nat) : ∀ (d : Nat) (l : List α) (i : Nat), n - i = d → n ≤ l.length → HBut le l n i → HO le (down less l i n).1 n := by
  intro d
  induction d using Nat.strongRecOn with
  | _ d ih =>
    intro l i hd hn hb
    by_cases h : 2 * i + 1 < n
    · obtain ⟨c1, c2, c3⟩ := child_le less l i n h
      have hc : ∀ k, 0 < k → k < n → (k - 1) / 2 = i → le (at_ l (child less l i n)) (at_ l k) ∨ k = child less l i n := by
        intro k hk hkn hki
        have hk2 : k = 2 * i + 1 ∨ k = 2 * i + 2 := by omega
        unfold child
        by_cases hcond : 2 * i + 2 < n ∧ less (at_ l (2 * i + 2)) (at_ l (2 * i + 1)) = true
        · rw [if_pos hcond]
          rcases hk2 with rfl | rfl
          · exact .inl (ho.ofLess hcond.2)
          · exact .inr rfl
        · rw [if_neg hcond]
          rcases hk2 with rfl | rfl
          · exact .inr rfl
          · left
            refine ho.ofNot ?_
            cases hl : less (at_ l (2 * i + 2)) (at_ l (2 * i + 1)) with
            | false => rfl
            | true => exact absurd ⟨hkn, hl⟩ hcond
      generalize hcj : child less l i n = j at *
      cases hl : less (at_ l j) (at_ l i) with
      | true =>
        have hdn : down less l i n = down less (swp l i j) j n := by rw [down_go less h (by rw [hcj]; exact hl), hcj]
        rw [hdn]
        refine ih _ (by omega) _ _ rfl (by rw [swp_length]; omega) ⟨fun k hk hkn hkj => ?_, fun k hj hk hkn hkj => ?_⟩
        · rw [swp_at l (by omega) (by omega)]
          unfold swpF
          by_cases e1 : k = j
          · subst e1
            rw [if_pos (by omega), if_neg (by omega), if_pos rfl]
            exact ho.ofLess hl
          · by_cases e2 : (k - 1) / 2 = i
            · rw [if_pos e2, if_neg (by omega), if_neg e1]
              exact (hc k hk hkn e2).resolve_right e1
            · by_cases e3 : k = i
              · subst e3
                rw [if_neg (by omega), if_neg (by omega), if_pos rfl]
                exact hb.2 j hk (by omega) (by omega) (by omega)
              · rw [if_neg e2, if_neg hkj, if_neg e3, if_neg e1]
                exact hb.1 k hk hkn e2
        · rw [swp_at l (by omega) (by omega)]
          unfold swpF
          rw [if_pos (by omega), if_neg (by omega), if_neg (by omega)]
          have := hb.1 k hk hkn (by omega)
          rw [hkj] at this
          exact this
      | false =>
        rw [down_stop less h (by rw [hcj]; exact hl)]
        intro k hk hkn
        by_cases e : (k - 1) / 2 = i
        · rw [e]
          rcases hc k hk hkn e with h' | h'
          · exact ho.trans (ho.ofNot hl) h'
          · rw [h']; exact ho.ofNot hl
        · exact hb.1 k hk hkn e
    · rw [down_end less h]
      intro k hk hkn
      exact hb.1 k hk hkn (by omega)

theorem up_heap (ho : Order less le) (n : Nat) : ∀ (j : Nat) (l : List α), n ≤ l.length → j < n → HUp le l n j → HO le (up less l j) n := by
  intro j
  induction j using Nat.strongRecOn with
  | _ j ih =>
    intro l hn hj hu
    by_cases h0 : j = 0
    · subst h0
      rw [up_zero]
      exact fun k hk hkn => hu.1 k hk hkn (by omega)
    · cases hl : less (at_ l j) (at_ l ((j - 1) / 2)) with
      | true =>
        rw [up_go less h0 hl]
        refine ih _ (by omega) _ (by rw [swp_length]; omega) (by omega) ⟨fun k hk hkn hki => ?_, fun k hi hk hkn hki => ?_⟩
        · rw [swp_at l (by omega) (by omega)]
          unfold swpF
          rw [if_neg hki]
          by_cases e1 : k = j
          · subst e1
            rw [if_pos rfl, if_pos rfl]
            exact ho.ofLess hl
          · rw [if_neg e1]
            by_cases e2 : (k - 1) / 2 = (j - 1) / 2
            · rw [if_pos e2]
              have := hu.1 k hk hkn e1
              rw [e2] at this
              exact ho.trans (ho.ofLess hl) this
            · rw [if_neg e2]
              by_cases e3 : (k - 1) / 2 = j
              · rw [if_pos e3]
                exact hu.2 k (by omega) hk hkn e3
              · rw [if_neg e3]
                exact hu.1 k hk hkn e1
        · rw [swp_at l (by omega) (by omega)]
          unfold swpF
          rw [if_neg (by omega), if_neg (by omega), if_neg (by omega)]
          have hp := hu.1 ((j - 1) / 2) (by omega) (by omega) (by omega)
          by_cases e1 : k = j
          · subst e1; rw [if_pos rfl]; exact hp
          · rw [if_neg e1]
            have := hu.1 k hk hkn e1
            rw [hki] at this
            exact ho.trans hp this
      | false =>
        rw [up_stop less hl]
        intro k hk hkn
        by_cases e : k = j
        · subst e; exact ho.ofNot hl
        · exact hu.1 k hk hkn e

/-- The first of a heap comes ahead of all. -/
theorem HO.top (ho : Order less le) (hr : ∀ a, le a a) {l : List α} {n : Nat} (hh : HO le l n) : ∀ k, k < n → le (at_ l 0) (at_ l k) := by
  intro k
  induction k using Nat.strongRecOn with
  | _ k ih =>
    intro hk
    by_cases h0 : k = 0
    · subst h0; exact hr _
    · exact ho.trans (ih ((k - 1) / 2) (by omega) (by omega)) (hh k (by omega) hk)

/-- Push: one more at the end, then up. -/
theorem push_heap (ho : Order less le) {l : List α} {x : α} (hh : HO le l l.length) : HO le (up less (l ++ [x]) l.length) (l.length + 1) := by
  have hat : ∀ k, k < l.length → at_ (l ++ [x]) k = at_ l k := fun k hk => by simp [at_, List.getD_eq_getElem?_getD, List.getElem?_append_left hk]
  refine up_heap ho _ _ _ (by simp) (by omega) ⟨fun k hk hkn hne => ?_, fun k h0 hk hkn hki => by omega⟩
  rw [hat _ (by omega), hat _ (by omega)]
  exact hh k hk (by omega)
/-- Another first one, then down: Fix. -/
theorem fix_heap (ho : Order less le) {l : List α} {x : α} (hh : HO le l l.length) : HO le (down less (l.set 0 x) 0 l.length).1 l.length := by
  have hat : ∀ k, 0 < k → at_ (l.set 0 x) k = at_ l k := fun k hk => by simp [at_, List.getD_eq_getElem?_getD, List.getElem?_set_ne (show 0 ≠ k by omega)]
  refine down_heap ho _ _ _ _ rfl (by simp) ⟨fun k hk hkn hne => ?_, fun k h0 => by omega⟩
  rw [hat _ (by omega), hat _ hk]
  exact hh k hk hkn
/-- The last in the first one's place, then down of one fewer: Pop. -/
theorem pop_heap (ho : Order less le) {l : List α} {n : Nat} (hl : l.length = n + 1) (hh : ∀ k, 0 < k → k < l.length → (k - 1) / 2 ≠ 0 → le (at_ l ((k - 1) / 2)) (at_ l k)) : HO le ((down less (swp l 0 n) 0 n).1.take n) n := by
  have hd : HO le (down less (swp l 0 n) 0 n).1 n := by
    refine down_heap ho _ _ _ _ rfl (by rw [swp_length]; omega) ⟨fun k hk hkn hne => ?_, fun k h0 => by omega⟩
    rw [swp_at l (by omega) (by omega)]
    unfold swpF
    rw [if_neg hne, if_neg (by omega), if_neg (by omega), if_neg (by omega)]
    exact hh k hk (by omega) hne
  intro k hk hkn
  have hat : ∀ j, j < n → at_ ((down less (swp l 0 n) 0 n).1.take n) j = at_ (down less (swp l 0 n) 0 n).1 j := fun j hj => by simp [at_, List.getD_eq_getElem?_getD, List.getElem?_take, hj]
  rw [hat _ (by omega), hat _ hkn]
  exact hd k hk hkn
/-- Pop's remainder and the one that was first: all that was there. -/
theorem pop_perm {l : List α} {n : Nat} (hl : l.length = n + 1) : ((down less (swp l 0 n) 0 n).1.take n ++ [at_ l 0]).Perm l := by
  have hp := (down_perm less n (n - 0) (swp l 0 n) 0 rfl (by rw [swp_length]; omega)).trans (swp_perm l (by omega) (by omega))
  have hlen : (down less (swp l 0 n) 0 n).1.length = n + 1 := by rw [down_length less n _ _ _ rfl, swp_length, hl]
  have hlast : (down less (swp l 0 n) 0 n).1[n]? = some (at_ l 0) := by
    rw [down_keep less n n (Nat.le_refl _) _ _ _ rfl (by rw [swp_length]; omega), swp_get l (by omega) (by omega)]
    by_cases h0 : n = 0
    · rw [if_pos h0, h0]; exact at_get (by omega)
    · rw [if_neg h0, if_pos rfl]; exact at_get (by omega)
  have : (down less (swp l 0 n) 0 n).1 = (down less (swp l 0 n) 0 n).1.take n ++ [at_ l 0] := by
    apply List.ext_getElem?
    intro k
    rw [List.getElem?_append, List.length_take, hlen, Nat.min_eq_left (by omega)]
    by_cases hk : k < n
    · rw [if_pos hk, List.getElem?_take, if_pos hk]
    · rw [if_neg hk]
      by_cases hk2 : k = n
      · subst hk2; rw [hlast]; simp
      · rw [List.getElem?_eq_none (by omega)]
        rw [List.getElem?_eq_none (by simp; omega)]
  rw [← this]
  exact hp
end
end Go.V.Heaps
