/- Sorting by insertion. -/
import Derived.Test.YtobjkcmiicflmaaC1
set_option maxRecDepth 100000
set_option linter.unusedVariables false
namespace Go.Proofs.Ytobjkcmiicflmaa
open Go Go.V Go.V.Heaps

theorem insertion_fn {h : Heap} {g c : Nat} {l : List Pc} (hs : SS h g c l h) {a b : Nat} (hb : b ≤ l.length) (hab : a ≤ b) :
    FnS Try.prog 40 [.slice (some ⟨g, 0, none⟩) l.length c, .int .i64 (a : Int), .int .i64 (b : Int), cmpV] h fun _ h' => ∃ l', SS h g c l' h' ∧ PO l l' a b ∧ SO keyP l' a b := by
  have hfew := hs.few
  refine FnS.intro Try.func40 rfl rfl rfl ?_
  refine Sat.seq ?_
  refine Sat.region rfl ?_
  refine ⟨rfl, ((a + 1 : Nat) : Int), by rw [wrap_i64 (by omega) (by omega)]; omega, ?_⟩
  refine Sat.block ?_
  refine Sat.loop (X := Nat × List Pc) (fun x => [(0, .slice (some ⟨g, 0, none⟩) l.length c), (1, .int .i64 (a : Int)), (2, .int .i64 (b : Int)), (3, cmpV), (8, .int .i64 (x.1 : Int))])
    (fun x h' => SS h g c x.2 h' ∧ PO l x.2 a b ∧ SO keyP x.2 a x.1 ∧ a < x.1 ∧ (x.1 ≤ b ∨ x.1 = a + 1)) (fun x => b + 1 - x.1) (a + 1, l) ⟨rfl, rfl, rfl, rfl, rfl, trivial⟩ ⟨hs, PO.refl _ _ _, SO.small (Nat.le_refl _), by simp, .inr rfl⟩ ?_
  rintro ⟨i, l1⟩ h1 ⟨s1, p1, so1, hai, hib⟩
  simp only at s1 p1 so1 hai hib ⊢
  have hl1 := p1.len
  refine Sat.seq ?_
  refine Sat.seq ?_
  refine Sat.region rfl ?_
  refine ⟨rfl, fun h2 => ?_, fun h2 => ?_⟩
  rotate_left
  · refine Sat.cond ?_
    refine Sat.exit ?_
    exact ⟨l1, s1, p1, fun p q hp hpq hq => so1 p q hp hpq (by omega)⟩
  have hilt : i < b := by omega
  refine Sat.cond ?_
  refine Sat.skip ?_
  refine Sat.cut (X := List Pc) (fun _ => [(0, .slice (some ⟨g, 0, none⟩) l.length c), (1, .int .i64 (a : Int)), (2, .int .i64 (b : Int)), (3, cmpV), (8, .int .i64 (i : Int))])
    (fun l2 h' => SS h g c l2 h' ∧ PO l l2 a b ∧ SO keyP l2 a (i + 1)) ?_ ?_
  rotate_left
  · rintro l2 h2' ⟨s2, p2, so2⟩
    refine Sat.region rfl ?_
    refine ⟨rfl, ((i + 1 : Nat) : Int), by rw [wrap_i64 (by omega) (by omega)]; omega, ?_⟩
    exact ⟨(i + 1, l2), ⟨rfl, rfl, rfl, rfl, rfl, trivial⟩, ⟨s2, p2, so2, by simp only; omega, .inl hilt⟩, by simp only; omega⟩
  refine Sat.block ?_
  refine Sat.seq ?_
  refine Sat.region rfl ?_
  refine Sat.block ?_
  refine Sat.loop (X := Nat × List Pc) (fun x => [(0, .slice (some ⟨g, 0, none⟩) l.length c), (1, .int .i64 (a : Int)), (2, .int .i64 (b : Int)), (3, cmpV), (8, .int .i64 (i : Int)), (9, .int .i64 (x.1 : Int))])
    (fun x h' => SS h g c x.2 h' ∧ PO l x.2 a b ∧ a ≤ x.1 ∧ x.1 ≤ i ∧ ∀ p q, a ≤ p → p < q → q ≤ i → q ≠ x.1 → keyP (at_ x.2 p) ≤ keyP (at_ x.2 q)) (fun x => x.1) (i, l1) ⟨rfl, rfl, rfl, rfl, rfl, rfl, trivial⟩
    ⟨s1, p1, by simp only; omega, Nat.le_refl _, fun p q hp hpq hq hne => so1 p q hp hpq (by simp only at hne; omega)⟩ ?_
  rintro ⟨j, l2⟩ h3 ⟨s2, p2, haj, hji, inv⟩
  simp only at s2 p2 haj hji inv ⊢
  have hl2 := p2.len
  refine Sat.seq ?_
  refine Sat.seq ?_
  refine Sat.drawn (.old h3.size [32]) rfl (by kernel_rfl) ?_
  refine ⟨rfl, fun h4 => ?_, fun h4 => ?_⟩
  rotate_left
  · refine Sat.cond ?_
    refine Sat.exit ?_
    refine ⟨l2, ⟨rfl, rfl, rfl, rfl, rfl, trivial⟩, s2, p2, fun p q hp hpq hq => inv p q hp hpq (by omega) (by omega)⟩
  have hj0 : a < j := by omega
  refine ⟨⟨g, 0, none⟩, j, rfl, rfl, by omega, ⟨s2.blk (by omega), _, rfl, s2.row (k := j) (by omega), ?_⟩⟩
  refine ⟨rfl, ((j - 1 : Nat) : Int), by rw [wrap_i64 (by omega) (by omega)]; omega, ⟨g, 0, none⟩, j - 1, rfl, rfl, by omega, ⟨s2.blk (by omega), _, rfl, s2.row (k := j - 1) (by omega), ?_⟩⟩
  refine (cmp_fn (at_ l2 j) (at_ l2 (j - 1))).mono ?_
  rintro u h4' ⟨rfl, x4⟩
  have s4 := s2.ext x4
  refine ⟨x4.2, rfl, fun h5 => ?_, fun h5 => ?_⟩
  rotate_left
  · have hge : ¬ (at_ l2 j).at_ < (at_ l2 (j - 1)).at_ := fun e => by have := (cmp3_neg _ _).2 e; omega
    refine Sat.cond ?_
    refine Sat.exit ?_
    refine ⟨l2, ⟨rfl, rfl, rfl, rfl, rfl, trivial⟩, s4, p2, fun p q hp hpq hq => ?_⟩
    by_cases hqj : q = j
    · subst hqj
      by_cases hpj : p = q - 1
      · subst hpj; unfold keyP; omega
      · have := inv p (q - 1) hp (by omega) (by omega) (by omega)
        unfold keyP at this ⊢; omega
    · exact inv p q hp hpq (by omega) hqj
  have hlt : (at_ l2 j).at_ < (at_ l2 (j - 1)).at_ := (cmp3_neg _ _).1 h5
  refine Sat.cond ?_
  refine Sat.skip ?_
  refine Sat.seq ?_
  refine Sat.block ?_
  refine Sat.drawn .plain rfl (by kernel_rfl) ?_
  refine ⟨rfl, ((j - 1 : Nat) : Int), by rw [wrap_i64 (by omega) (by omega)]; omega, rfl, ((j - 1 : Nat) : Int), by rw [wrap_i64 (by omega) (by omega)]; omega, ?_⟩
  refine ⟨⟨g, 0, none⟩, j - 1, rfl, rfl, by omega, _, rfl, s4.row (k := j - 1) (by omega), ⟨g, 0, none⟩, j, rfl, rfl, by omega, _, rfl, s4.row (k := j) (by omega), ?_⟩
  refine ⟨⟨g, 0, none⟩, j, rfl, rfl, by omega, rfl, one_pc _, s4.cells (k := j) (by omega), ?_⟩
  refine ⟨⟨g, 0, none⟩, j - 1, rfl, rfl, by omega, rfl, one_pc _, s4.cells2 (i := j) (k := j - 1) (by omega) (by omega) _, ?_⟩
  have s5 := s4.swap (i := j) (k := j - 1) (by omega) (by omega)
  refine Sat.region rfl ?_
  refine ⟨rfl, ((j - 1 : Nat) : Int), by rw [wrap_i64 (by omega) (by omega)]; omega, ?_⟩
  refine ⟨(j - 1, swp l2 j (j - 1)), ⟨rfl, rfl, rfl, rfl, rfl, rfl, trivial⟩, ⟨s5, p2.trans (PO.swp (by omega) (by omega) (by omega)), by simp only; omega, by simp only; omega, fun p q hp hpq hq hne => ?_⟩, by simp only; omega⟩
  simp only at hne ⊢
  rw [swp_at l2 (by omega) (by omega)]
  unfold swpF
  by_cases c1 : q = j
  · subst c1
    rw [if_pos rfl, if_neg (by omega)]
    by_cases c2 : p = q - 1
    · rw [if_pos c2]; unfold keyP; omega
    · rw [if_neg c2]; exact inv p (q - 1) hp (by omega) (by omega) (by omega)
  · rw [if_neg c1, if_neg hne]
    by_cases c3 : p = j
    · rw [if_pos c3]; exact inv (j - 1) q (by omega) (by omega) hq c1
    · rw [if_neg c3]
      by_cases c4 : p = j - 1
      · rw [if_pos c4]; exact inv j q (by omega) (by omega) hq c1
      · rw [if_neg c4]; exact inv p q hp hpq hq c1
end Go.Proofs.Ytobjkcmiicflmaa
