/- Parting a range by a pivot. -/
import Derived.Test.YtobjkcmiicflmaaC3
set_option maxRecDepth 100000
set_option linter.unusedVariables false
namespace Go.Proofs.Ytobjkcmiicflmaa
open Go Go.V Go.V.Heaps

structure PI (l0 l : List Pc) (a b i j : Nat) : Prop where
  po : PO l0 l a b
  rng : a < i ∧ i ≤ j + 1 ∧ j < b
  lo : ∀ p, a < p → p < i → keyP (at_ l p) < keyP (at_ l a)
  hi : ∀ p, j < p → p < b → keyP (at_ l a) ≤ keyP (at_ l p)
theorem PI.incI {l0 l : List Pc} {a b i j : Nat} (h : PI l0 l a b i j) (hij : i ≤ j) (hlt : (at_ l i).at_ < (at_ l a).at_) : PI l0 l a b (i + 1) j := by
  obtain ⟨r1, r2, r3⟩ := h.rng
  refine ⟨h.po, by omega, fun p hp hpi => ?_, h.hi⟩
  by_cases e : p = i
  · subst e; exact hlt
  · exact h.lo p hp (by omega)
theorem PI.decJ {l0 l : List Pc} {a b i j : Nat} (h : PI l0 l a b i j) (hij : i ≤ j) (hge : keyP (at_ l a) ≤ keyP (at_ l j)) : PI l0 l a b i (j - 1) := by
  obtain ⟨r1, r2, r3⟩ := h.rng
  refine ⟨h.po, by omega, h.lo, fun p hp hpb => ?_⟩
  by_cases e : p = j
  · subst e; exact hge
  · exact h.hi p (by omega) hpb
theorem PI.swap {l0 l : List Pc} {a b i j : Nat} (h : PI l0 l a b i j) (hb : b ≤ l.length) (hij : i < j) (hi : keyP (at_ l a) ≤ keyP (at_ l i)) (hj : keyP (at_ l j) < keyP (at_ l a)) : PI l0 (swp l i j) a b (i + 1) (j - 1) := by
  obtain ⟨r1, r2, r3⟩ := h.rng
  have ea : at_ (swp l i j) a = at_ l a := by rw [swp_at l (by omega) (by omega)]; unfold swpF; rw [if_neg (by omega), if_neg (by omega)]
  refine ⟨h.po.trans (PO.swp (by omega) (by omega) hb), by omega, fun p hp hpi => ?_, fun p hp hpb => ?_⟩
  · rw [ea, swp_at l (by omega) (by omega)]
    unfold swpF
    by_cases e : p = i
    · rw [if_pos e]; exact hj
    · rw [if_neg e, if_neg (by omega)]; exact h.lo p hp (by omega)
  · rw [ea, swp_at l (by omega) (by omega)]
    unfold swpF
    rw [if_neg (by omega)]
    by_cases e : p = j
    · rw [if_pos e]; exact hi
    · rw [if_neg e]; exact h.hi p (by omega) hpb
/-- Parted at m. -/
structure Parted (l0 l : List Pc) (a b m : Nat) : Prop where
  po : PO l0 l a b
  rng : a ≤ m ∧ m < b
  lo : ∀ p, a ≤ p → p < m → keyP (at_ l p) < keyP (at_ l m)
  hi : ∀ p, m < p → p < b → keyP (at_ l m) ≤ keyP (at_ l p)
theorem PI.done {l0 l : List Pc} {a b i j : Nat} (h : PI l0 l a b i j) (hb : b ≤ l.length) (hij : j < i) : Parted l0 (swp l j a) a b j := by
  obtain ⟨r1, r2, r3⟩ := h.rng
  have ej : at_ (swp l j a) j = at_ l a := by rw [swp_at l (by omega) (by omega)]; unfold swpF; rw [if_pos rfl]
  refine ⟨h.po.trans (PO.swp (by omega) (by omega) hb), by omega, fun p hp hpj => ?_, fun p hp hpb => ?_⟩
  · rw [ej, swp_at l (by omega) (by omega)]
    unfold swpF
    rw [if_neg (by omega)]
    by_cases e : p = a
    · rw [if_pos e]; exact h.lo j (by omega) (by omega)
    · rw [if_neg e]; exact h.lo p (by omega) (by omega)
  · rw [ej, swp_at l (by omega) (by omega)]
    unfold swpF
    rw [if_neg (by omega), if_neg (by omega)]
    exact h.hi p hp hpb

theorem partition_fn {h : Heap} {g c : Nat} {l : List Pc} (hs : SS h g c l h) {a b p : Nat} (hab : a + 1 < b) (hb : b ≤ l.length) (hp : a ≤ p ∧ p < b) :
    FnS Try.prog 47 [.slice (some ⟨g, 0, none⟩) l.length c, .int .i64 (a : Int), .int .i64 (b : Int), .int .i64 (p : Int), cmpV] h fun u h' =>
      ∃ (m : Nat) (t : Bool) (l' : List Pc), u = .tuple #[.int .i64 (m : Int), .bool t] ∧ SS h g c l' h' ∧ Parted l l' a b m := by
  have hfew := hs.few
  refine FnS.intro Try.func47 rfl rfl rfl ?_
  refine Sat.seq ?_
  refine Sat.region rfl ?_
  refine Sat.seq ?_
  refine Sat.drawn .plain rfl (by kernel_rfl) ?_
  refine ⟨⟨g, 0, none⟩, p, rfl, rfl, by omega, _, rfl, hs.row (k := p) (by omega), ⟨g, 0, none⟩, a, rfl, rfl, by omega, _, rfl, hs.row (k := a) (by omega), ?_⟩
  refine ⟨⟨g, 0, none⟩, a, rfl, rfl, by omega, rfl, one_pc _, hs.cells (k := a) (by omega), ?_⟩
  refine ⟨⟨g, 0, none⟩, p, rfl, rfl, by omega, rfl, one_pc _, hs.cells2 (i := a) (k := p) (by omega) (by omega) _, ?_⟩
  have s1 := hs.swap (i := a) (k := p) (by omega) (by omega)
  have po1 : PO l (swp l a p) a b := PO.swp (by omega) (by omega) hb
  generalize swp l a p = l1 at *
  have hl1 := po1.len
  refine Sat.seq ?_
  refine Sat.region rfl ?_
  refine ⟨rfl, ((a + 1 : Nat) : Int), by rw [wrap_i64 (by omega) (by omega)]; omega, rfl, ((b - 1 : Nat) : Int), by rw [wrap_i64 (by omega) (by omega)]; omega, ?_⟩
  have pi1 : PI l l1 a b (a + 1) (b - 1) := ⟨po1, by omega, fun p h1 h2 => by omega, fun p h1 h2 => by omega⟩
  refine Sat.cut (X := Nat) (fun i => [(0, .slice (some ⟨g, 0, none⟩) l.length c), (1, .int .i64 (a : Int)), (4, cmpV), (12, .int .i64 (i : Int)), (13, .int .i64 (((b - 1 : Nat)) : Int))]) (fun i h' => SS h g c l1 h' ∧ PI l l1 a b i ((b - 1 : Nat)) ∧ (((b - 1 : Nat)) < i ∨ keyP (at_ l1 a) ≤ keyP (at_ l1 i)) ∧ (a + 1) ≤ i) ?_ ?_
  · refine Sat.block ?_
    refine Sat.loop (X := Nat) (fun i => [(0, .slice (some ⟨g, 0, none⟩) l.length c), (1, .int .i64 (a : Int)), (4, cmpV), (12, .int .i64 (i : Int)), (13, .int .i64 (((b - 1 : Nat)) : Int))]) (fun i h' => SS h g c l1 h' ∧ PI l l1 a b i ((b - 1 : Nat)) ∧ (a + 1) ≤ i) (fun i => ((b - 1 : Nat)) + 1 - i) (a + 1) ⟨rfl, rfl, rfl, rfl, rfl, trivial⟩ ⟨s1, pi1, Nat.le_refl _⟩ ?_
    rintro i h3 ⟨s3, pi3, hi0⟩
    have hl3 := pi3.po.len
    obtain ⟨hai, hij, hjb⟩ := pi3.rng
    refine Sat.seq ?_
    refine Sat.seq ?_
    refine Sat.drawn (.old h3.size [45]) rfl (by kernel_rfl) ?_
    refine ⟨rfl, fun h4 => ?_, fun h4 => ?_⟩
    rotate_left
    · refine Sat.cond ?_
      refine Sat.exit ?_
      exact ⟨i, ⟨rfl, rfl, rfl, rfl, rfl, trivial⟩, s3, pi3, .inl (by omega), hi0⟩
    have e3 := s3.row (k := i) (by omega)
    have e4 := s3.row (k := a) (by omega)
    refine ⟨⟨g, 0, none⟩, i, rfl, rfl, by omega, ⟨s3.blk (by omega), _, rfl, e3, ?_⟩⟩
    refine ⟨⟨g, 0, none⟩, a, rfl, rfl, by omega, ⟨s3.blk (by omega), _, rfl, e4, ?_⟩⟩
    refine (cmp_fn (at_ l1 i) (at_ l1 a)).mono ?_
    rintro u h5 ⟨rfl, x5⟩
    refine ⟨x5.2, rfl, fun h6 => ?_, fun h6 => ?_⟩
    · have hlt := (cmp3_neg _ _).1 h6
      refine Sat.cond ?_
      refine Sat.skip ?_
      refine Sat.block ?_
      refine Sat.region rfl ?_
      refine ⟨rfl, ((i + 1 : Nat) : Int), by rw [wrap_i64 (by omega) (by omega)]; omega, ?_⟩
      exact ⟨i + 1, ⟨rfl, rfl, rfl, rfl, rfl, trivial⟩, ⟨s3.ext x5, pi3.incI (by omega) hlt, by omega⟩, by omega⟩
    · have hge : ¬ (at_ l1 i).at_ < (at_ l1 a).at_ := fun e => by have := (cmp3_neg _ _).2 e; omega
      refine Sat.cond ?_
      refine Sat.exit ?_
      exact ⟨i, ⟨rfl, rfl, rfl, rfl, rfl, trivial⟩, s3.ext x5, pi3, .inr (by unfold keyP; omega), hi0⟩
  rintro i h2 ⟨s2, pi2, hi2, hi0⟩
  refine Sat.cut (X := Nat) (fun j => [(0, .slice (some ⟨g, 0, none⟩) l.length c), (1, .int .i64 (a : Int)), (4, cmpV), (12, .int .i64 (i : Int)), (13, .int .i64 (j : Int))]) (fun j h' => SS h g c l1 h' ∧ PI l l1 a b i j ∧ (j < i ∨ keyP (at_ l1 j) < keyP (at_ l1 a)) ∧ j ≤ (b - 1)) ?_ ?_
  · refine Sat.block ?_
    refine Sat.loop (X := Nat) (fun j => [(0, .slice (some ⟨g, 0, none⟩) l.length c), (1, .int .i64 (a : Int)), (4, cmpV), (12, .int .i64 (i : Int)), (13, .int .i64 (j : Int))]) (fun j h' => SS h g c l1 h' ∧ PI l l1 a b i j ∧ j ≤ (b - 1)) (fun j => j) (b - 1) ⟨rfl, rfl, rfl, rfl, rfl, trivial⟩ ⟨s2, pi2, Nat.le_refl _⟩ ?_
    rintro j h3 ⟨s3, pi3, hj0⟩
    have hl3 := pi3.po.len
    obtain ⟨hai, hij, hjb⟩ := pi3.rng
    refine Sat.seq ?_
    refine Sat.seq ?_
    refine Sat.drawn (.old h3.size [63]) rfl (by kernel_rfl) ?_
    refine ⟨rfl, fun h4 => ?_, fun h4 => ?_⟩
    rotate_left
    · refine Sat.cond ?_
      refine Sat.exit ?_
      exact ⟨j, ⟨rfl, rfl, rfl, rfl, rfl, trivial⟩, s3, pi3, .inl (by omega), hj0⟩
    have e3 := s3.row (k := j) (by omega)
    have e4 := s3.row (k := a) (by omega)
    refine ⟨⟨g, 0, none⟩, j, rfl, rfl, by omega, ⟨s3.blk (by omega), _, rfl, e3, ?_⟩⟩
    refine ⟨⟨g, 0, none⟩, a, rfl, rfl, by omega, ⟨s3.blk (by omega), _, rfl, e4, ?_⟩⟩
    refine (cmp_fn (at_ l1 j) (at_ l1 a)).mono ?_
    rintro u h5 ⟨rfl, x5⟩
    refine ⟨x5.2, rfl, fun h6 => ?_, fun h6 => ?_⟩
    · have hlt := (cmp3_neg _ _).1 h6
      refine Sat.cond ?_
      refine Sat.exit ?_
      exact ⟨j, ⟨rfl, rfl, rfl, rfl, rfl, trivial⟩, s3.ext x5, pi3, .inr hlt, hj0⟩
    · have hge : ¬ (at_ l1 j).at_ < (at_ l1 a).at_ := fun e => by have := (cmp3_neg _ _).2 e; omega
      refine Sat.cond ?_
      refine Sat.skip ?_
      refine Sat.block ?_
      refine Sat.region rfl ?_
      refine ⟨rfl, ((j - 1 : Nat) : Int), by rw [wrap_i64 (by omega) (by omega)]; omega, ?_⟩
      exact ⟨j - 1, ⟨rfl, rfl, rfl, rfl, rfl, trivial⟩, ⟨s3.ext x5, pi3.decJ (by omega) (by unfold keyP; omega), by omega⟩, by omega⟩
  rintro j h3 ⟨s3, pi3, hj3, hj0⟩
  obtain ⟨r1, r2, r3⟩ := pi3.rng
  refine Sat.seq ?_
  refine Sat.seq ?_
  refine Sat.region rfl ?_
  refine ⟨rfl, fun h4 => ?_, fun h4 => ?_⟩
  · refine Sat.cond ?_
    refine Sat.seq ?_
    refine Sat.drawn .plain rfl (by kernel_rfl) ?_
    refine ⟨⟨g, 0, none⟩, a, rfl, rfl, by omega, _, rfl, s3.row (k := a) (by omega), ⟨g, 0, none⟩, j, rfl, rfl, by omega, _, rfl, s3.row (k := j) (by omega), ?_⟩
    refine ⟨⟨g, 0, none⟩, j, rfl, rfl, by omega, rfl, one_pc _, s3.cells (k := j) (by omega), ?_⟩
    refine ⟨⟨g, 0, none⟩, a, rfl, rfl, by omega, rfl, one_pc _, s3.cells2 (i := j) (k := a) (by omega) (by omega) _, ?_⟩
    refine Sat.seq ?_
    refine Sat.region rfl ?_
    refine Sat.ret ?_
    exact ⟨j, true, _, rfl, s3.swap (i := j) (k := a) (by omega) (by omega), pi3.done (by omega) (by omega)⟩
  have hij : i < j := by
    rcases hj3 with h5 | h5
    · omega
    · rcases Nat.lt_or_eq_of_le (show i ≤ j by omega) with h6 | h6
      · exact h6
      · subst h6
        rcases hi2 with h7 | h7
        · omega
        · omega
  have hik : keyP (at_ l1 a) ≤ keyP (at_ l1 i) := by
    rcases hi2 with h7 | h7
    · omega
    · exact h7
  have hjk : keyP (at_ l1 j) < keyP (at_ l1 a) := by
    rcases hj3 with h7 | h7
    · omega
    · exact h7
  refine Sat.cond ?_
  refine Sat.skip ?_
  refine Sat.seq ?_
  refine Sat.drawn .plain rfl (by kernel_rfl) ?_
  refine ⟨⟨g, 0, none⟩, j, rfl, rfl, by omega, _, rfl, s3.row (k := j) (by omega), ⟨g, 0, none⟩, i, rfl, rfl, by omega, _, rfl, s3.row (k := i) (by omega), ?_⟩
  refine ⟨⟨g, 0, none⟩, i, rfl, rfl, by omega, rfl, one_pc _, s3.cells (k := i) (by omega), ?_⟩
  refine ⟨⟨g, 0, none⟩, j, rfl, rfl, by omega, rfl, one_pc _, s3.cells2 (i := i) (k := j) (by omega) (by omega) _, ?_⟩
  have s4 := s3.swap (i := i) (k := j) (by omega) (by omega)
  have pi4 := pi3.swap (by omega) hij hik hjk
  generalize swp l1 i j = l2 at *
  refine Sat.seq ?_
  refine Sat.region rfl ?_
  refine ⟨rfl, ((i + 1 : Nat) : Int), by rw [wrap_i64 (by omega) (by omega)]; omega, ?_⟩
  refine Sat.seq ?_
  refine Sat.region rfl ?_
  refine ⟨rfl, ((j - 1 : Nat) : Int), by rw [wrap_i64 (by omega) (by omega)]; omega, ?_⟩
  refine Sat.cut (X := Nat × Nat × List Pc) (fun x => [(0, .slice (some ⟨g, 0, none⟩) l.length c), (1, .int .i64 (a : Int)), (4, cmpV), (13, .int .i64 (x.2.1 : Int))]) (fun x h' => SS h g c x.2.2 h' ∧ PI l x.2.2 a b x.1 x.2.1 ∧ x.2.1 < x.1) ?_ ?_
  rotate_left
  · rintro ⟨i, j, l3⟩ h5 ⟨s5, pi5, hji⟩
    simp only at s5 pi5 hji ⊢
    have hl5 := pi5.po.len
    obtain ⟨r1, r2, r3⟩ := pi5.rng
    refine Sat.seq ?_
    refine Sat.drawn .plain rfl (by kernel_rfl) ?_
    refine ⟨⟨g, 0, none⟩, a, rfl, rfl, by omega, _, rfl, s5.row (k := a) (by omega), ⟨g, 0, none⟩, j, rfl, rfl, by omega, _, rfl, s5.row (k := j) (by omega), ?_⟩
    refine ⟨⟨g, 0, none⟩, j, rfl, rfl, by omega, rfl, one_pc _, s5.cells (k := j) (by omega), ?_⟩
    refine ⟨⟨g, 0, none⟩, a, rfl, rfl, by omega, rfl, one_pc _, s5.cells2 (i := j) (k := a) (by omega) (by omega) _, ?_⟩
    refine Sat.seq ?_
    refine Sat.region rfl ?_
    refine Sat.ret ?_
    exact ⟨j, false, _, rfl, s5.swap (i := j) (k := a) (by omega) (by omega), pi5.done (by omega) (by omega)⟩
  clear hik hjk hij hj3 hi2 hi0 hj0 pi2 pi1 pi3 po1 s1 s2 s3
  refine Sat.block ?_
  refine Sat.loop (X := Nat × Nat × List Pc) (fun x => [(0, .slice (some ⟨g, 0, none⟩) l.length c), (1, .int .i64 (a : Int)), (4, cmpV), (12, .int .i64 (x.1 : Int)), (13, .int .i64 (x.2.1 : Int))]) (fun x h' => SS h g c x.2.2 h' ∧ PI l x.2.2 a b x.1 x.2.1) (fun x => x.2.1 + 2 - x.1) (i + 1, j - 1, l2)
    ⟨rfl, rfl, rfl, rfl, rfl, trivial⟩ ⟨s4, pi4⟩ ?_
  clear pi4 s4 r1 r2 r3 hl1
  rintro ⟨i0, j0, l1⟩ h1' ⟨s1, pi1⟩
  simp only at s1 pi1 ⊢
  have hl1 := pi1.po.len
  obtain ⟨t1, t2, t3⟩ := pi1.rng
  refine Sat.block ?_
  refine Sat.cut (X := Nat) (fun i => [(0, .slice (some ⟨g, 0, none⟩) l.length c), (1, .int .i64 (a : Int)), (4, cmpV), (12, .int .i64 (i : Int)), (13, .int .i64 (j0 : Int))]) (fun i h' => SS h g c l1 h' ∧ PI l l1 a b i j0 ∧ (j0 < i ∨ keyP (at_ l1 a) ≤ keyP (at_ l1 i)) ∧ i0 ≤ i) ?_ ?_
  · refine Sat.block ?_
    refine Sat.loop (X := Nat) (fun i => [(0, .slice (some ⟨g, 0, none⟩) l.length c), (1, .int .i64 (a : Int)), (4, cmpV), (12, .int .i64 (i : Int)), (13, .int .i64 (j0 : Int))]) (fun i h' => SS h g c l1 h' ∧ PI l l1 a b i j0 ∧ i0 ≤ i) (fun i => j0 + 1 - i) i0 ⟨rfl, rfl, rfl, rfl, rfl, trivial⟩ ⟨s1, pi1, Nat.le_refl _⟩ ?_
    rintro i h3 ⟨s3, pi3, hi0⟩
    have hl3 := pi3.po.len
    obtain ⟨hai, hij, hjb⟩ := pi3.rng
    refine Sat.seq ?_
    refine Sat.seq ?_
    refine Sat.drawn (.old h3.size [118]) rfl (by kernel_rfl) ?_
    refine ⟨rfl, fun h4 => ?_, fun h4 => ?_⟩
    rotate_left
    · refine Sat.cond ?_
      refine Sat.exit ?_
      exact ⟨i, ⟨rfl, rfl, rfl, rfl, rfl, trivial⟩, s3, pi3, .inl (by omega), hi0⟩
    have e3 := s3.row (k := i) (by omega)
    have e4 := s3.row (k := a) (by omega)
    refine ⟨⟨g, 0, none⟩, i, rfl, rfl, by omega, ⟨s3.blk (by omega), _, rfl, e3, ?_⟩⟩
    refine ⟨⟨g, 0, none⟩, a, rfl, rfl, by omega, ⟨s3.blk (by omega), _, rfl, e4, ?_⟩⟩
    refine (cmp_fn (at_ l1 i) (at_ l1 a)).mono ?_
    rintro u h5 ⟨rfl, x5⟩
    refine ⟨x5.2, rfl, fun h6 => ?_, fun h6 => ?_⟩
    · have hlt := (cmp3_neg _ _).1 h6
      refine Sat.cond ?_
      refine Sat.skip ?_
      refine Sat.block ?_
      refine Sat.region rfl ?_
      refine ⟨rfl, ((i + 1 : Nat) : Int), by rw [wrap_i64 (by omega) (by omega)]; omega, ?_⟩
      exact ⟨i + 1, ⟨rfl, rfl, rfl, rfl, rfl, trivial⟩, ⟨s3.ext x5, pi3.incI (by omega) hlt, by omega⟩, by omega⟩
    · have hge : ¬ (at_ l1 i).at_ < (at_ l1 a).at_ := fun e => by have := (cmp3_neg _ _).2 e; omega
      refine Sat.cond ?_
      refine Sat.exit ?_
      exact ⟨i, ⟨rfl, rfl, rfl, rfl, rfl, trivial⟩, s3.ext x5, pi3, .inr (by unfold keyP; omega), hi0⟩
  rintro i h2 ⟨s2, pi2, hi2, hi0⟩
  refine Sat.cut (X := Nat) (fun j => [(0, .slice (some ⟨g, 0, none⟩) l.length c), (1, .int .i64 (a : Int)), (4, cmpV), (12, .int .i64 (i : Int)), (13, .int .i64 (j : Int))]) (fun j h' => SS h g c l1 h' ∧ PI l l1 a b i j ∧ (j < i ∨ keyP (at_ l1 j) < keyP (at_ l1 a)) ∧ j ≤ j0) ?_ ?_
  · refine Sat.block ?_
    refine Sat.loop (X := Nat) (fun j => [(0, .slice (some ⟨g, 0, none⟩) l.length c), (1, .int .i64 (a : Int)), (4, cmpV), (12, .int .i64 (i : Int)), (13, .int .i64 (j : Int))]) (fun j h' => SS h g c l1 h' ∧ PI l l1 a b i j ∧ j ≤ j0) (fun j => j) j0 ⟨rfl, rfl, rfl, rfl, rfl, trivial⟩ ⟨s2, pi2, Nat.le_refl _⟩ ?_
    rintro j h3 ⟨s3, pi3, hj0⟩
    have hl3 := pi3.po.len
    obtain ⟨hai, hij, hjb⟩ := pi3.rng
    refine Sat.seq ?_
    refine Sat.seq ?_
    refine Sat.drawn (.old h3.size [136]) rfl (by kernel_rfl) ?_
    refine ⟨rfl, fun h4 => ?_, fun h4 => ?_⟩
    rotate_left
    · refine Sat.cond ?_
      refine Sat.exit ?_
      exact ⟨j, ⟨rfl, rfl, rfl, rfl, rfl, trivial⟩, s3, pi3, .inl (by omega), hj0⟩
    have e3 := s3.row (k := j) (by omega)
    have e4 := s3.row (k := a) (by omega)
    refine ⟨⟨g, 0, none⟩, j, rfl, rfl, by omega, ⟨s3.blk (by omega), _, rfl, e3, ?_⟩⟩
    refine ⟨⟨g, 0, none⟩, a, rfl, rfl, by omega, ⟨s3.blk (by omega), _, rfl, e4, ?_⟩⟩
    refine (cmp_fn (at_ l1 j) (at_ l1 a)).mono ?_
    rintro u h5 ⟨rfl, x5⟩
    refine ⟨x5.2, rfl, fun h6 => ?_, fun h6 => ?_⟩
    · have hlt := (cmp3_neg _ _).1 h6
      refine Sat.cond ?_
      refine Sat.exit ?_
      exact ⟨j, ⟨rfl, rfl, rfl, rfl, rfl, trivial⟩, s3.ext x5, pi3, .inr hlt, hj0⟩
    · have hge : ¬ (at_ l1 j).at_ < (at_ l1 a).at_ := fun e => by have := (cmp3_neg _ _).2 e; omega
      refine Sat.cond ?_
      refine Sat.skip ?_
      refine Sat.block ?_
      refine Sat.region rfl ?_
      refine ⟨rfl, ((j - 1 : Nat) : Int), by rw [wrap_i64 (by omega) (by omega)]; omega, ?_⟩
      exact ⟨j - 1, ⟨rfl, rfl, rfl, rfl, rfl, trivial⟩, ⟨s3.ext x5, pi3.decJ (by omega) (by unfold keyP; omega), by omega⟩, by omega⟩
  rintro j h3 ⟨s3, pi3, hj3, hj0⟩
  obtain ⟨r1, r2, r3⟩ := pi3.rng
  refine Sat.seq ?_
  refine Sat.seq ?_
  refine Sat.region rfl ?_
  refine ⟨rfl, fun h4 => ?_, fun h4 => ?_⟩
  · refine Sat.cond ?_
    refine Sat.exit ?_
    exact ⟨(i, j, l1), ⟨rfl, rfl, rfl, rfl, trivial⟩, s3, pi3, by simp only; omega⟩
  have hij : i < j := by
    rcases hj3 with h5 | h5
    · omega
    · rcases Nat.lt_or_eq_of_le (show i ≤ j by omega) with h6 | h6
      · exact h6
      · subst h6
        rcases hi2 with h7 | h7
        · omega
        · omega
  have hik : keyP (at_ l1 a) ≤ keyP (at_ l1 i) := by
    rcases hi2 with h7 | h7
    · omega
    · exact h7
  have hjk : keyP (at_ l1 j) < keyP (at_ l1 a) := by
    rcases hj3 with h7 | h7
    · omega
    · exact h7
  refine Sat.cond ?_
  refine Sat.skip ?_
  refine Sat.seq ?_
  refine Sat.drawn .plain rfl (by kernel_rfl) ?_
  refine ⟨⟨g, 0, none⟩, j, rfl, rfl, by omega, _, rfl, s3.row (k := j) (by omega), ⟨g, 0, none⟩, i, rfl, rfl, by omega, _, rfl, s3.row (k := i) (by omega), ?_⟩
  refine ⟨⟨g, 0, none⟩, i, rfl, rfl, by omega, rfl, one_pc _, s3.cells (k := i) (by omega), ?_⟩
  refine ⟨⟨g, 0, none⟩, j, rfl, rfl, by omega, rfl, one_pc _, s3.cells2 (i := i) (k := j) (by omega) (by omega) _, ?_⟩
  have s4 := s3.swap (i := i) (k := j) (by omega) (by omega)
  have pi4 := pi3.swap (by omega) hij hik hjk
  generalize swp l1 i j = l2 at *
  refine Sat.seq ?_
  refine Sat.region rfl ?_
  refine ⟨rfl, ((i + 1 : Nat) : Int), by rw [wrap_i64 (by omega) (by omega)]; omega, ?_⟩
  refine Sat.region rfl ?_
  refine ⟨rfl, ((j - 1 : Nat) : Int), by rw [wrap_i64 (by omega) (by omega)]; omega, ?_⟩
  exact ⟨(i + 1, j - 1, l2), ⟨rfl, rfl, rfl, rfl, rfl, trivial⟩, ⟨s4, pi4⟩, by simp only; omega⟩
end Go.Proofs.Ytobjkcmiicflmaa
