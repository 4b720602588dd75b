/- The two plans, plainly. -/
import Derived.Test.YtobjkcmiicflmaaC14
set_option maxRecDepth 100000
set_option linter.unusedVariables false
namespace Go.Proofs.Ytobjkcmiicflmaa
open Go Go.V Go.V.Heaps

/-- The program's way: one after the other, what fits is taken. -/
def run (b : Int) : List Pc → List Pc × List Pc
  | [] => ([], [])
  | x :: r => if wd x ≤ b then ((x :: (run (b - wd x) r).1), (run (b - wd x) r).2) else ((run b r).1, x :: (run b r).2)
theorem run_perm : ∀ (b : Int) (l : List Pc), ((run b l).1 ++ (run b l).2).Perm l
  | b, [] => .refl _
  | b, x :: r => by
    unfold run
    split
    · exact (run_perm (b - wd x) r).cons x
    · exact (List.perm_middle).trans ((run_perm b r).cons x)

/-- The reference's way: again and again the first of those that fit. -/
inductive RefPlan : Int → List Pc → List Pc → List Pc → Prop where
  | stop {b : Int} {l : List Pc} : (∀ x ∈ l, b < wd x) → RefPlan b l [] l
  | take {b : Int} {p s t r : List Pc} {x : Pc} : wd x ≤ b → (∀ y ∈ p ++ s, wd y ≤ b → plLt x y) → RefPlan (b - wd x) (p ++ s) t r → RefPlan b (p ++ x :: s) (x :: t) r

theorem wd_nonneg {x : Pc} (h : OkPc x) : 0 ≤ wd x := (wid_bound h.1 h.2).1
theorem plans : ∀ (s : List Pc) (b : Int) (u l : List Pc), s.Pairwise plLt → (∀ x ∈ s, OkPc x) → (∀ x ∈ u, b < wd x) → l.Perm (s ++ u) → ∃ r, RefPlan b l (run b s).1 r ∧ r.Perm ((run b s).2 ++ u) ∧ r.Sublist l
  | [], b, u, l, _, _, hu, hp => ⟨l, .stop fun x hx => hu x (by simpa using hp.mem_iff.1 hx), by simpa [run] using hp, List.Sublist.refl l⟩
  | x :: s, b, u, l, hs, hok, hu, hp => by
    have hs' := List.pairwise_cons.1 hs
    have h0 := wd_nonneg (hok x (List.mem_cons_self ..))
    unfold run
    by_cases hx : wd x ≤ b
    · rw [if_pos hx]
      obtain ⟨p, q, rfl⟩ := List.append_of_mem (hp.mem_iff.2 (List.mem_cons_self ..) : x ∈ l)
      have hpq : (p ++ q).Perm (s ++ u) := by
        have h1 : (x :: (p ++ q)).Perm (x :: (s ++ u)) := (List.perm_middle.symm).trans hp
        exact List.Perm.cons_inv h1
      obtain ⟨r, h1, h2, h3⟩ := plans s (b - wd x) u (p ++ q) hs'.2 (fun y hy => hok y (List.mem_cons_of_mem _ hy)) (fun y hy => by have := hu y hy; omega) hpq
      refine ⟨r, .take hx (fun y hy hyb => ?_) h1, h2, h3.trans (List.Sublist.append_left (List.sublist_cons_self x q) p)⟩
      rcases List.mem_append.1 (hpq.mem_iff.1 hy) with h | h
      · exact hs'.1 y h
      · have := hu y h; omega
    · rw [if_neg hx]
      obtain ⟨r, h1, h2, h3⟩ := plans s b (x :: u) l hs'.2 (fun y hy => hok y (List.mem_cons_of_mem _ hy)) (fun y hy => by
        rcases List.mem_cons.1 hy with rfl | h
        · omega
        · exact hu y h) (hp.trans (List.perm_middle.symm))
      exact ⟨r, h1, h2.trans List.perm_middle, h3⟩

theorem split_unique {x : Pc} : ∀ {p s p' s' : List Pc}, p ++ x :: s = p' ++ x :: s' → (p ++ x :: s).Nodup → p = p' ∧ s = s'
  | [], s, [], s', e, _ => by simp at e; exact ⟨rfl, e⟩
  | [], s, y :: p', s', e, hn => by
    simp only [List.nil_append, List.cons_append, List.cons.injEq] at e
    obtain ⟨rfl, e2⟩ := e
    exact absurd (by rw [e2]; simp) (List.nodup_cons.1 hn).1
  | y :: p, s, [], s', e, hn => by
    simp only [List.nil_append, List.cons_append, List.cons.injEq] at e
    obtain ⟨rfl, _⟩ := e
    exact absurd (by simp) (List.nodup_cons.1 hn).1
  | y :: p, s, z :: p', s', e, hn => by
    simp only [List.cons_append, List.cons.injEq] at e
    obtain ⟨rfl, e2⟩ := e
    obtain ⟨h1, h2⟩ := split_unique e2 (List.nodup_cons.1 hn).2
    exact ⟨by rw [h1], h2⟩
theorem RefPlan.unique {b : Int} {l t r t' r' : List Pc} (h : RefPlan b l t r) (h' : RefPlan b l t' r') (hn : l.Nodup) : t = t' ∧ r = r' := by
  induction h generalizing t' r' with
  | stop hs =>
    cases h' with
    | stop _ => exact ⟨rfl, rfl⟩
    | @take _ p s t r x hx _ _ =>
      have := hs x (by simp)
      omega
  | @take b p s t r x hx hb hr ih =>
    generalize hl : p ++ x :: s = l0 at h'
    cases h' with
    | stop hs =>
      have := hs x (by rw [← hl]; simp)
      omega
    | @take _ p' s' t2 r2 y hy hb' hr' =>
      have hxy : x = y := by
        have hm : y ∈ p ++ x :: s := by rw [hl]; simp
        have hm' : x ∈ p' ++ y :: s' := by rw [← hl]; simp
        by_cases e : x = y
        · exact e
        · exfalso
          have h1 : y ∈ p ++ s := by
            rcases List.mem_append.1 hm with h | h
            · exact List.mem_append_left _ h
            · rcases List.mem_cons.1 h with h | h
              · exact absurd h.symm e
              · exact List.mem_append_right _ h
          have h2 : x ∈ p' ++ s' := by
            rcases List.mem_append.1 hm' with h | h
            · exact List.mem_append_left _ h
            · rcases List.mem_cons.1 h with h | h
              · exact absurd h e
              · exact List.mem_append_right _ h
          have h3 := hb y h1 hy
          have h4 := hb' x h2 hx
          unfold plLt at h3 h4
          omega
      subst hxy
      obtain ⟨rfl, rfl⟩ := split_unique hl hn
      have hn' : (p ++ s).Nodup := by
        have := (List.perm_middle (a := x) (l₁ := p) (l₂ := s)).nodup_iff.1 hn
        exact (List.nodup_cons.1 this).2
      obtain ⟨e1, e2⟩ := ih hr' hn'
      exact ⟨by rw [e1], e2⟩
end Go.Proofs.Ytobjkcmiicflmaa
