/- Merging, plainly: again and again the first of the sources' first items; the queue's way to find it. -/
import Derived.Test.YtiheebgoadmomaaH1
set_option linter.unusedVariables false
set_option linter.unusedSimpArgs false
set_option linter.unusedSectionVars false
namespace Go.Proofs.Ytiheebgoadmomaa
open Go.V.Heaps

section
variable {α : Type} (key : α → Int)

/-- Source i's first item comes next. -/
def IsBest (ls : List (List α)) (i : Nat) : Prop := ∃ x r, ls[i]? = some (x :: r) ∧ ∀ (j : Nat) y s, ls[j]? = some (y :: s) → key x < key y ∨ (key x = key y ∧ i ≤ j)
inductive Merges : List (List α) → List (α × Nat) → Prop where
  | done {ls : List (List α)} : (∀ (i : Nat) l, ls[i]? = some l → l = []) → Merges ls []
  | step {ls : List (List α)} {i : Nat} {x : α} {r : List α} {out : List (α × Nat)} : IsBest key ls i → ls[i]? = some (x :: r) → Merges (ls.set i r) out → Merges ls ((x, i) :: out)

theorem IsBest.unique {ls : List (List α)} {i j : Nat} (hi : IsBest key ls i) (hj : IsBest key ls j) : i = j := by
  obtain ⟨x, r, h1, h2⟩ := hi
  obtain ⟨y, s, h3, h4⟩ := hj
  have a := h2 j y s h3
  have b := h4 i x r h1
  omega
theorem Merges.unique {ls : List (List α)} {o1 o2 : List (α × Nat)} (h1 : Merges key ls o1) (h2 : Merges key ls o2) : o1 = o2 := by
  induction h1 generalizing o2 with
  | done hd =>
    cases h2 with
    | done _ => rfl
    | step hb hx _ => have := hd _ _ hx; cases this
  | step hb hx _ ih =>
    cases h2 with
    | done hd => have := hd _ _ hx; cases this
    | step hb' hx' hm' =>
      have := hb.unique key hb'
      subst this
      rw [hx] at hx'
      injection hx' with hx'
      injection hx' with e1 e2
      subst e1; subst e2
      rw [ih hm']

def total (ls : List (List α)) : Nat := (ls.map List.length).sum
theorem total_set {ls : List (List α)} {i : Nat} {x : α} {r : List α} (h : ls[i]? = some (x :: r)) : total ls = total (ls.set i r) + 1 := by
  induction ls generalizing i with
  | nil => cases h
  | cons l t ih =>
    cases i with
    | zero => simp only [List.getElem?_cons_zero, Option.some.injEq] at h; subst h; simp [total]; omega
    | succ i =>
      have := ih (i := i) (by simpa using h)
      simp [total] at this ⊢
      omega
theorem Merges.length {ls : List (List α)} {o : List (α × Nat)} (h : Merges key ls o) : o.length = total ls := by
  induction h with
  | done hd =>
    rename_i ls
    have : ∀ l ∈ ls, l = [] := fun l hl => by
      obtain ⟨i, hi⟩ := List.mem_iff_getElem?.1 hl
      exact hd i l hi
    induction ls with
    | nil => rfl
    | cons l t ih =>
      have h1 := this l (List.mem_cons_self ..)
      subst h1
      have := ih (fun i l' hi => hd (i + 1) l' (by simpa using hi)) (fun l hl => this l (List.mem_cons_of_mem _ hl))
      simp [total] at this ⊢
      exact this
  | step hb hx _ ih => rw [List.length_cons, ih, total_set hx]

/-- Rising: no item's key is below the one's before it. -/
def Rises (l : List α) : Prop := l.Pairwise fun a b => key a ≤ key b
/-- Of rising sources what comes is rising, and what has come is at most all that is still there. -/
theorem Merges.rises {ls : List (List α)} {o : List (α × Nat)} (h : Merges key ls o) (hr : ∀ l ∈ ls, Rises key l) : o.Pairwise fun a b => key a.1 < key b.1 ∨ (key a.1 = key b.1 ∧ a.2 ≤ b.2) := by
  have key1 : ∀ {ls : List (List α)} {o : List (α × Nat)}, Merges key ls o → (∀ l ∈ ls, Rises key l) → ∀ (k : Int) (n : Nat), (∀ (j : Nat) y s, ls[j]? = some (y :: s) → k < key y ∨ (k = key y ∧ n ≤ j)) → ∀ b ∈ o, k < key b.1 ∨ (k = key b.1 ∧ n ≤ b.2) := by
    intro ls o h
    induction h with
    | done _ => intro _ k n _ b hb; cases hb
    | step hb hx hm ih =>
      rename_i ls i x r out
      intro hr k n hk b hbo
      have hx0 := hk i x r hx
      rcases List.mem_cons.1 hbo with rfl | hbo
      · exact hx0
      · have hrx : Rises key (x :: r) := hr _ (List.mem_of_getElem? hx)
        refine ih (fun l hl => ?_) k n (fun j y s hj => ?_) b hbo
        · rcases List.mem_or_eq_of_mem_set hl with h' | h'
          · exact hr l h'
          · subst h'; exact (List.pairwise_cons.1 hrx).2
        · by_cases hij : i = j
          · subst hij
            have hlt : i < ls.length := (List.getElem?_eq_some_iff.1 hx).1
            rw [List.getElem?_set_self hlt] at hj
            injection hj with hj
            subst hj
            have := (List.pairwise_cons.1 hrx).1 y (List.mem_cons_self ..)
            omega
          · rw [List.getElem?_set_ne hij] at hj
            exact hk j y s hj
  induction h with
  | done _ => exact List.Pairwise.nil
  | step hb hx hm ih =>
    rename_i ls i x r out
    have hrx : Rises key (x :: r) := hr _ (List.mem_of_getElem? hx)
    have hr' : ∀ l ∈ ls.set i r, Rises key l := fun l hl => by
      rcases List.mem_or_eq_of_mem_set hl with h' | h'
      · exact hr l h'
      · subst h'; exact (List.pairwise_cons.1 hrx).2
    refine List.pairwise_cons.2 ⟨?_, ih hr'⟩
    refine key1 hm hr' (key x) i (fun j y s hj => ?_)
    obtain ⟨x', r', h1, h2⟩ := hb
    rw [hx] at h1
    injection h1 with h1
    injection h1 with e1 e2
    subst e1; subst e2
    by_cases hij : i = j
    · subst hij
      have hlt : i < ls.length := (List.getElem?_eq_some_iff.1 hx).1
      rw [List.getElem?_set_self hlt] at hj
      injection hj with hj
      subst hj
      have := (List.pairwise_cons.1 hrx).1 y (List.mem_cons_self ..)
      omega
    · rw [List.getElem?_set_ne hij] at hj
      exact h2 j y s hj
end

/-! ### the queue -/
section
variable {σ α : Type} [Inhabited σ] (items : σ → List α) (num : σ → Nat) (key : α → Int)

def headKey (l : List α) : Int := match l with
  | [] => 0
  | x :: _ => key x
/-- Which comes ahead. -/
def srcLess (a b : σ) : Bool := decide (headKey key (items a) < headKey key (items b) ∨ (headKey key (items a) = headKey key (items b) ∧ num a < num b))
def srcLe (a b : σ) : Prop := headKey key (items a) < headKey key (items b) ∨ (headKey key (items a) = headKey key (items b) ∧ num a ≤ num b)
theorem src_order : Order (srcLess items num key) (srcLe items num key) where
  trans := fun {a b c} h1 h2 => by unfold srcLe at *; omega
  ofLess := fun {a b} h => by unfold srcLess srcLe at *; simp at h; omega
  ofNot := fun {a b} h => by unfold srcLess srcLe at *; simp at h; omega
theorem srcLe_refl (a : σ) : srcLe items num key a a := by unfold srcLe; omega

/-- The queue holds just the sources of which something is left. -/
structure Agree (q : List σ) (ls : List (List α)) : Prop where
  loc : ∀ s ∈ q, items s ≠ [] ∧ ls[num s]? = some (items s)
  all : ∀ (n : Nat) l, ls[n]? = some l → l ≠ [] → ∃ s ∈ q, num s = n
  nodup : (q.map num).Nodup

variable {items num key}
theorem Agree.perm {q q' : List σ} {ls : List (List α)} (h : Agree items num q ls) (hp : q'.Perm q) : Agree items num q' ls where
  loc := fun s hs => h.loc s (hp.mem_iff.1 hs)
  all := fun n l hl hne => by obtain ⟨s, hs, hn⟩ := h.all n l hl hne; exact ⟨s, hp.mem_iff.2 hs, hn⟩
  nodup := (hp.map num).nodup_iff.2 h.nodup
theorem Agree.best {q : List σ} {ls : List (List α)} (h : Agree items num q ls) (hh : HO (srcLe items num key) q q.length) (hq : 0 < q.length) : IsBest key ls (num (at_ q 0)) := by
  have hm : at_ q 0 ∈ q := List.mem_of_getElem? (at_get hq)
  obtain ⟨hne, hl⟩ := h.loc _ hm
  obtain ⟨x, r, hx⟩ := List.exists_cons_of_ne_nil hne
  refine ⟨x, r, by rw [hl, hx], fun j y s hj => ?_⟩
  obtain ⟨t, ht, htn⟩ := h.all j _ hj (by simp)
  obtain ⟨k, hk⟩ := List.mem_iff_getElem?.1 ht
  have hkl : k < q.length := (List.getElem?_eq_some_iff.1 hk).1
  have := HO.top (src_order items num key) (srcLe_refl items num key) hh k hkl
  rw [at_some hk] at this
  have hlt := (h.loc t ht).2
  rw [htn, hj] at hlt
  injection hlt with hlt
  unfold srcLe at this
  rw [hx, ← hlt, htn] at this
  exact this
theorem Agree.empty {ls : List (List α)} (h : Agree items num [] ls) : ∀ (i : Nat) l, ls[i]? = some l → l = [] := fun i l hl => by
  cases l with
  | nil => rfl
  | cons x r => obtain ⟨s, hs, _⟩ := h.all i _ hl (by simp); cases hs
/-- The first source's last item has gone. -/
theorem Agree.pop {q q' : List σ} {ls : List (List α)} (h : Agree items num q ls) (s : σ) (hp : (q' ++ [s]).Perm q) : Agree items num q' (ls.set (num s) []) := by
  have h' := h.perm hp
  have hnd : ((q' ++ [s]).map num).Nodup := h'.nodup
  rw [List.map_append, List.map_singleton, List.nodup_append] at hnd
  have hne : ∀ t ∈ q', num t ≠ num s := fun t ht => hnd.2.2 _ (List.mem_map_of_mem ht) _ (List.mem_singleton.2 rfl)
  refine ⟨fun t ht => ?_, fun n l hl hl0 => ?_, hnd.1⟩
  · obtain ⟨h1, h2⟩ := h'.loc t (List.mem_append_left _ ht)
    exact ⟨h1, by rw [List.getElem?_set_ne (Ne.symm (hne t ht))]; exact h2⟩
  · by_cases hn : num s = n
    · subst hn
      rw [List.getElem?_set] at hl
      simp only [if_true] at hl
      split at hl
      · injection hl with hl; exact absurd hl.symm hl0
      · cases hl
    · rw [List.getElem?_set_ne hn] at hl
      obtain ⟨t, ht, htn⟩ := h'.all n l hl hl0
      rcases List.mem_append.1 ht with h1 | h1
      · exact ⟨t, h1, htn⟩
      · rw [List.mem_singleton.1 h1] at htn; exact absurd htn hn
/-- The first source's first item has gone. -/
theorem Agree.next {q : List σ} {ls : List (List α)} (h : Agree items num q ls) {s s' : σ} {r : List α} (hs : q[0]? = some s) (hn : num s' = num s) (hi : items s' = r) (hr : r ≠ []) : Agree items num (q.set 0 s') (ls.set (num s) r) := by
  cases q with
  | nil => cases hs
  | cons t q =>
    simp only [List.getElem?_cons_zero, Option.some.injEq] at hs
    subst hs
    have hnd : num t ∉ q.map num ∧ (q.map num).Nodup := by simpa using h.nodup
    have hne : ∀ u ∈ q, num u ≠ num t := fun u hu e => hnd.1 (by rw [← e]; exact List.mem_map_of_mem hu)
    have hlt : num t < ls.length := (List.getElem?_eq_some_iff.1 (h.loc t (List.mem_cons_self ..)).2).1
    simp only [List.set_cons_zero]
    refine ⟨fun u hu => ?_, fun n l hl hl0 => ?_, ?_⟩
    · rcases List.mem_cons.1 hu with rfl | hu
      · exact ⟨by rw [hi]; exact hr, by rw [hn, List.getElem?_set_self hlt, hi]⟩
      · obtain ⟨h1, h2⟩ := h.loc u (List.mem_cons_of_mem _ hu)
        exact ⟨h1, by rw [List.getElem?_set_ne (Ne.symm (hne u hu))]; exact h2⟩
    · by_cases hnn : num t = n
      · exact ⟨s', List.mem_cons_self .., by rw [hn, hnn]⟩
      · rw [List.getElem?_set_ne hnn] at hl
        obtain ⟨u, hu, hun⟩ := h.all n l hl hl0
        rcases List.mem_cons.1 hu with rfl | h1
        · exact absurd hun hnn
        · exact ⟨u, List.mem_cons_of_mem _ h1, hun⟩
    · rw [List.map_cons, hn]
      exact List.nodup_cons.2 hnd
/-- One more source is put in. -/
theorem Agree.push {q : List σ} {ls : List (List α)} {l : List α} (h : Agree items num q ls) {s : σ} (hs : items s = l) (hn : num s = ls.length) (hl : l ≠ []) : Agree items num (q ++ [s]) (ls ++ [l]) := by
  have hlt : ∀ t ∈ q, num t < ls.length := fun t ht => (List.getElem?_eq_some_iff.1 (h.loc t ht).2).1
  refine ⟨fun t ht => ?_, fun n l' hl' hne => ?_, ?_⟩
  · rcases List.mem_append.1 ht with h1 | h1
    · obtain ⟨a, b⟩ := h.loc t h1
      exact ⟨a, by rw [List.getElem?_append_left (hlt t h1)]; exact b⟩
    · rw [List.mem_singleton.1 h1]
      exact ⟨by rw [hs]; exact hl, by rw [hn, List.getElem?_append_right (Nat.le_refl _), Nat.sub_self, hs]; rfl⟩
  · by_cases hnl : n < ls.length
    · rw [List.getElem?_append_left hnl] at hl'
      obtain ⟨t, ht, htn⟩ := h.all n l' hl' hne
      exact ⟨t, List.mem_append_left _ ht, htn⟩
    · have : n < (ls ++ [l]).length := (List.getElem?_eq_some_iff.1 hl').1
      rw [List.length_append, List.length_singleton] at this
      exact ⟨s, List.mem_append_right _ (List.mem_singleton.2 rfl), by omega⟩
  · rw [List.map_append, List.map_singleton, List.nodup_append]
    refine ⟨h.nodup, by simp, fun a ha b hb => ?_⟩
    obtain ⟨t, ht, rfl⟩ := List.mem_map.1 ha
    have := hlt t ht
    rw [List.mem_singleton.1 hb, hn]
    omega
theorem Agree.skip {q : List σ} {ls : List (List α)} (h : Agree items num q ls) : Agree items num q (ls ++ [[]]) := by
  have hlt : ∀ t ∈ q, num t < ls.length := fun t ht => (List.getElem?_eq_some_iff.1 (h.loc t ht).2).1
  refine ⟨fun t ht => ?_, fun n l' hl' hne => ?_, h.nodup⟩
  · obtain ⟨a, b⟩ := h.loc t ht
    exact ⟨a, by rw [List.getElem?_append_left (hlt t ht)]; exact b⟩
  · by_cases hnl : n < ls.length
    · rw [List.getElem?_append_left hnl] at hl'
      exact h.all n l' hl' hne
    · rw [List.getElem?_append_right (by omega)] at hl'
      have hm := List.mem_of_getElem? hl'
      rw [List.mem_singleton] at hm
      exact absurd hm hne
end
end Go.Proofs.Ytiheebgoadmomaa
