/- Sorting by a heap. -/
import Derived.Test.YtobjkcmiicflmaaC3
set_option maxRecDepth 100000
set_option linter.unusedVariables false
namespace Go.Proofs.Ytobjkcmiicflmaa
open Go Go.V Go.V.Heaps

/-- A heap of f + lo .. f + hi but for the edges below r. -/
structure HI (l : List Pc) (f lo hi r : Nat) : Prop where
  e1 : ∀ k, 0 < k → k < hi → lo ≤ (k - 1) / 2 → (k - 1) / 2 ≠ r → keyP (at_ l (f + k)) ≤ keyP (at_ l (f + (k - 1) / 2))
  e2 : ∀ k, 0 < k → k < hi → (k - 1) / 2 = r → 0 < r → lo ≤ (r - 1) / 2 → keyP (at_ l (f + k)) ≤ keyP (at_ l (f + (r - 1) / 2))
def HF (l : List Pc) (f lo hi : Nat) : Prop := ∀ k, 0 < k → k < hi → lo ≤ (k - 1) / 2 → keyP (at_ l (f + k)) ≤ keyP (at_ l (f + (k - 1) / 2))
theorem HI.stop {l : List Pc} {f lo hi r : Nat} (h : HI l f lo hi r) (hc : ∀ k, 0 < k → k < hi → (k - 1) / 2 = r → keyP (at_ l (f + k)) ≤ keyP (at_ l (f + r))) : HF l f lo hi := fun k h0 hk hlo => by
  by_cases e : (k - 1) / 2 = r
  · rw [e]; exact hc k h0 hk e
  · exact h.e1 k h0 hk hlo e
theorem HI.go {l : List Pc} {f lo hi r ch : Nat} (h : HI l f lo hi r) (hlr : lo ≤ r) (hch : ch < hi) (h0 : 0 < ch) (hpar : (ch - 1) / 2 = r) (hlen : f + hi ≤ l.length)
    (hlt : keyP (at_ l (f + r)) < keyP (at_ l (f + ch))) (hoth : ∀ k, 0 < k → k < hi → (k - 1) / 2 = r → keyP (at_ l (f + k)) ≤ keyP (at_ l (f + ch))) : HI (swp l (f + r) (f + ch)) f lo hi ch := by
  have at' : ∀ k, at_ (swp l (f + r) (f + ch)) (f + k) = if k = r then at_ l (f + ch) else if k = ch then at_ l (f + r) else at_ l (f + k) := fun k => by
    rw [swp_at l (by omega) (by omega)]
    unfold swpF
    by_cases e1 : k = r
    · rw [if_pos (by omega), if_pos e1]
    · rw [if_neg (by omega), if_neg e1]
      by_cases e2 : k = ch
      · rw [if_pos (by omega), if_pos e2]
      · rw [if_neg (by omega), if_neg e2]
  refine ⟨fun k k0 kh klo kne => ?_, fun k k0 kh kp _ _ => ?_⟩
  · rw [at' k, at' ((k - 1) / 2)]
    by_cases c1 : (k - 1) / 2 = r
    · rw [if_pos c1, if_neg (by omega)]
      by_cases c2 : k = ch
      · rw [if_pos c2]; omega
      · rw [if_neg c2]; exact hoth k k0 kh c1
    · rw [if_neg c1, if_neg kne]
      by_cases c3 : k = r
      · rw [if_pos c3]
        subst c3
        exact h.e2 ch h0 hch hpar k0 klo
      · rw [if_neg c3]
        by_cases c4 : k = ch
        · subst c4; exact absurd hpar c1
        · rw [if_neg c4]; exact h.e1 k k0 kh klo c1
  · rw [at' k, at' ((ch - 1) / 2), if_neg (by omega), if_neg (by omega), if_pos hpar]
    have := h.e1 k k0 kh (by omega) (by omega)
    rwa [kp] at this

theorem sift_fn {h : Heap} {g c : Nat} {l : List Pc} (hs : SS h g c l h) {f lo hi : Nat} (hlen : f + hi ≤ l.length) (hh : HI l f lo hi lo) (hl : lo ≤ hi) :
    FnS Try.prog 56 [.slice (some ⟨g, 0, none⟩) l.length c, .int .i64 (lo : Int), .int .i64 (hi : Int), .int .i64 (f : Int), cmpV] h fun _ h' => ∃ l', SS h g c l' h' ∧ PO l l' (f + lo) (f + hi) ∧ HF l' f lo hi := by
  have hfew := hs.few
  refine FnS.intro Try.func56 rfl rfl rfl ?_
  refine Sat.seq ?_
  refine Sat.region rfl ?_
  refine Sat.block ?_
  refine Sat.loop (X := Nat × List Pc) (fun x => [(0, .slice (some ⟨g, 0, none⟩) l.length c), (2, .int .i64 (hi : Int)), (3, .int .i64 (f : Int)), (4, cmpV), (10, .int .i64 (x.1 : Int))])
    (fun x h' => SS h g c x.2 h' ∧ PO l x.2 (f + lo) (f + hi) ∧ lo ≤ x.1 ∧ x.1 ≤ hi ∧ HI x.2 f lo hi x.1) (fun x => hi - x.1) (lo, l) ⟨rfl, rfl, rfl, rfl, rfl, trivial⟩ ⟨hs, PO.refl _ _ _, Nat.le_refl _, hl, hh⟩ ?_
  rintro ⟨r, l1⟩ h1 ⟨s1, p1, hlr, hrh, hi1⟩
  simp only at s1 p1 hlr hrh hi1 ⊢
  have hl1 := p1.len
  refine Sat.block ?_
  refine Sat.seq ?_
  refine Sat.region rfl ?_
  refine ⟨rfl, ((2 * r : Nat) : Int), by rw [wrap_i64 (by omega) (by omega)]; omega, rfl, ((2 * r + 1 : Nat) : Int), by rw [wrap_i64 (by omega) (by omega)]; omega, ?_⟩
  refine Sat.seq ?_
  refine Sat.seq ?_
  refine Sat.region rfl ?_
  refine ⟨rfl, fun h2 => ?_, fun h2 => ?_⟩
  · refine Sat.cond ?_
    refine Sat.exit ?_
    exact ⟨l1, s1, p1, hi1.stop fun k k0 kh kp => by omega⟩
  have hc1 : 2 * r + 1 < hi := by omega
  refine Sat.cond ?_
  refine Sat.skip ?_
  refine Sat.cut (X := Nat) (fun ch => [(0, .slice (some ⟨g, 0, none⟩) l.length c), (2, .int .i64 (hi : Int)), (3, .int .i64 (f : Int)), (4, cmpV), (10, .int .i64 (r : Int)), (11, .int .i64 (ch : Int))])
    (fun ch h' => SS h g c l1 h' ∧ ch < hi ∧ (ch = 2 * r + 1 ∨ ch = 2 * r + 2) ∧ ∀ k, 0 < k → k < hi → (k - 1) / 2 = r → keyP (at_ l1 (f + k)) ≤ keyP (at_ l1 (f + ch))) ?_ ?_
  · refine Sat.seq ?_
    refine Sat.drawn (.old h1.size [38]) rfl (by kernel_rfl) ?_
    refine ⟨rfl, ((2 * r + 2 : Nat) : Int), by rw [wrap_i64 (by omega) (by omega)]; omega, rfl, fun h3 => ?_, fun h3 => ?_⟩
    · have hc2 : 2 * r + 2 < hi := by omega
      refine ⟨rfl, ((f + (2 * r + 1) : Nat) : Int), by rw [wrap_i64 (by omega) (by omega)]; omega, ⟨g, 0, none⟩, f + (2 * r + 1), rfl, rfl, by omega, ⟨s1.blk (by omega), _, rfl, s1.row (k := f + (2 * r + 1)) (by omega), ?_⟩⟩
      refine ⟨rfl, ((f + (2 * r + 1) : Nat) : Int), by rw [wrap_i64 (by omega) (by omega)]; omega, rfl, ((f + (2 * r + 2) : Nat) : Int), by rw [wrap_i64 (by omega) (by omega)]; omega, ⟨g, 0, none⟩, f + (2 * r + 2), rfl, rfl, by omega, ⟨s1.blk (by omega), _, rfl, s1.row (k := f + (2 * r + 2)) (by omega), ?_⟩⟩
      refine (cmp_fn (at_ l1 (f + (2 * r + 1))) (at_ l1 (f + (2 * r + 2)))).mono ?_
      rintro u h4 ⟨rfl, x4⟩
      refine ⟨x4.2, rfl, fun h5 => ?_, fun h5 => ?_⟩
      · have hlt := (cmp3_neg _ _).1 h5
        refine Sat.cond ?_
        refine Sat.region rfl ?_
        refine ⟨rfl, ((2 * r + 2 : Nat) : Int), by rw [wrap_i64 (by omega) (by omega)]; omega, ?_⟩
        refine ⟨2 * r + 2, ⟨rfl, rfl, rfl, rfl, rfl, rfl, trivial⟩, s1.ext x4, hc2, .inr rfl, fun k k0 kh kp => ?_⟩
        have : k = 2 * r + 1 ∨ k = 2 * r + 2 := by omega
        rcases this with rfl | rfl
        · unfold keyP; omega
        · exact Int.le_refl _
      · have hge : ¬ (at_ l1 (f + (2 * r + 1))).at_ < (at_ l1 (f + (2 * r + 2))).at_ := fun e => by have := (cmp3_neg _ _).2 e; omega
        refine Sat.cond ?_
        refine Sat.skip ?_
        refine ⟨2 * r + 1, ⟨rfl, rfl, rfl, rfl, rfl, rfl, trivial⟩, s1.ext x4, hc1, .inl rfl, fun k k0 kh kp => ?_⟩
        have : k = 2 * r + 1 ∨ k = 2 * r + 2 := by omega
        rcases this with rfl | rfl
        · exact Int.le_refl _
        · unfold keyP; omega
    · refine Sat.cond ?_
      refine Sat.skip ?_
      refine ⟨2 * r + 1, ⟨rfl, rfl, rfl, rfl, rfl, rfl, trivial⟩, s1, hc1, .inl rfl, fun k k0 kh kp => ?_⟩
      have : k = 2 * r + 1 := by omega
      subst this
      exact Int.le_refl _
  rintro ch h3 ⟨s3, hch, hch2, hoth⟩
  refine Sat.seq ?_
  refine Sat.seq ?_
  refine Sat.drawn (.old h3.size [56]) rfl (by kernel_rfl) ?_
  refine ⟨rfl, ((f + r : Nat) : Int), by rw [wrap_i64 (by omega) (by omega)]; omega, ⟨g, 0, none⟩, f + r, rfl, rfl, by omega, ⟨s3.blk (by omega), _, rfl, s3.row (k := f + r) (by omega), ?_⟩⟩
  refine ⟨rfl, ((f + ch : Nat) : Int), by rw [wrap_i64 (by omega) (by omega)]; omega, ⟨g, 0, none⟩, f + ch, rfl, rfl, by omega, ⟨s3.blk (by omega), _, rfl, s3.row (k := f + ch) (by omega), ?_⟩⟩
  refine (cmp_fn (at_ l1 (f + r)) (at_ l1 (f + ch))).mono ?_
  rintro u h4 ⟨rfl, x4⟩
  have s4 := s3.ext x4
  refine ⟨x4.2, rfl, fun h5 => ?_, fun h5 => ?_⟩
  rotate_left
  · have hge : ¬ (at_ l1 (f + r)).at_ < (at_ l1 (f + ch)).at_ := fun e => by have := (cmp3_neg _ _).2 e; omega
    refine Sat.cond ?_
    refine Sat.ret ?_
    refine ⟨l1, s4, p1, hi1.stop fun k k0 kh kp => ?_⟩
    have := hoth k k0 kh kp
    unfold keyP at this ⊢
    omega
  have hlt := (cmp3_neg _ _).1 h5
  refine Sat.cond ?_
  refine Sat.skip ?_
  refine Sat.seq ?_
  refine Sat.drawn .plain rfl (by kernel_rfl) ?_
  refine ⟨rfl, ((f + r : Nat) : Int), by rw [wrap_i64 (by omega) (by omega)]; omega, rfl, ((f + ch : Nat) : Int), by rw [wrap_i64 (by omega) (by omega)]; omega, rfl, ((f + ch : Nat) : Int), by rw [wrap_i64 (by omega) (by omega)]; omega, ?_⟩
  refine ⟨⟨g, 0, none⟩, f + ch, rfl, rfl, by omega, _, rfl, s4.row (k := f + ch) (by omega), rfl, ((f + r : Nat) : Int), by rw [wrap_i64 (by omega) (by omega)]; omega, ⟨g, 0, none⟩, f + r, rfl, rfl, by omega, _, rfl, s4.row (k := f + r) (by omega), ?_⟩
  refine ⟨⟨g, 0, none⟩, f + r, rfl, rfl, by omega, rfl, one_pc _, s4.cells (k := f + r) (by omega), ?_⟩
  refine ⟨⟨g, 0, none⟩, f + ch, rfl, rfl, by omega, rfl, one_pc _, s4.cells2 (i := f + r) (k := f + ch) (by omega) (by omega) _, ?_⟩
  have s5 := s4.swap (i := f + r) (k := f + ch) (by omega) (by omega)
  refine Sat.region rfl ?_
  refine ⟨(ch, swp l1 (f + r) (f + ch)), ⟨rfl, rfl, rfl, rfl, rfl, trivial⟩, ⟨s5, p1.trans (PO.swp (by omega) (by omega) (by omega)), by simp only; omega, by simp only; omega, hi1.go hlr hch (by omega) (by omega) (by omega) hlt hoth⟩, by simp only; omega⟩

theorem HF.top {l : List Pc} {f hi : Nat} (h : HF l f 0 hi) : ∀ k, k < hi → keyP (at_ l (f + k)) ≤ keyP (at_ l f) := by
  intro k
  induction k using Nat.strongRecOn with
  | _ k ih =>
    intro hk
    by_cases h0 : k = 0
    · subst h0; exact Int.le_refl _
    · exact Int.le_trans (h k (by omega) hk (Nat.zero_le _)) (ih ((k - 1) / 2) (by omega) (by omega))

theorem heapsort_fn {h : Heap} {g c : Nat} {l : List Pc} (hs : SS h g c l h) (hn : l.Nodup) {a b : Nat} (hab : a < b) (hb : b ≤ l.length) :
    FnS Try.prog 41 [.slice (some ⟨g, 0, none⟩) l.length c, .int .i64 (a : Int), .int .i64 (b : Int), cmpV] h fun _ h' => ∃ l', SS h g c l' h' ∧ PO l l' a b ∧ SO keyP l' a b := by
  have hfew := hs.few
  refine FnS.intro Try.func41 rfl rfl rfl ?_
  refine Sat.seq ?_
  refine Sat.region rfl ?_
  refine Sat.seq ?_
  refine Sat.region rfl ?_
  refine Sat.seq ?_
  refine Sat.region rfl ?_
  refine ⟨rfl, ((b - a : Nat) : Int), by rw [wrap_i64 (by omega) (by omega)]; omega, ?_⟩
  refine Sat.cut (X := List Pc) (fun _ => [(0, .slice (some ⟨g, 0, none⟩) l.length c), (3, cmpV), (8, .int .i64 (a : Int)), (9, .int .i64 0), (10, .int .i64 ((b - a : Nat) : Int))])
    (fun l1 h' => SS h g c l1 h' ∧ PO l l1 a b ∧ HF l1 a 0 (b - a)) ?_ ?_
  · refine Sat.seq ?_
    refine Sat.region rfl ?_
    refine ⟨rfl, ((b - a - 1 : Nat) : Int), by rw [wrap_i64 (by omega) (by omega)]; omega, rfl, by decide, _, quoI (k := 2) (by omega) (by decide), ?_⟩
    refine Sat.block ?_
    -- i + 1 of them are still to be sifted
    refine Sat.loop (X := Nat × List Pc) (fun x => [(0, .slice (some ⟨g, 0, none⟩) l.length c), (3, cmpV), (8, .int .i64 (a : Int)), (9, .int .i64 0), (10, .int .i64 ((b - a : Nat) : Int)), (11, .int .i64 ((x.1 : Int) - 1))])
      (fun x h' => SS h g c x.2 h' ∧ PO l x.2 a b ∧ x.1 ≤ (b - a - 1) / 2 + 1 ∧ HF x.2 a x.1 (b - a)) (fun x => x.1) ((b - a - 1) / 2 + 1, l) ⟨rfl, rfl, rfl, rfl, rfl, ?_, trivial⟩ ⟨hs, PO.refl _ _ _, Nat.le_refl _, fun k k0 kh kl => by simp only at kl; omega⟩ ?_
    · show some _ = some _
      congr 2
      simp
    rintro ⟨i, l1⟩ h1 ⟨s1, p1, hi, hf1⟩
    simp only at s1 p1 hi hf1 ⊢
    have hl1 := p1.len
    refine Sat.seq ?_
    refine Sat.seq ?_
    refine Sat.region rfl ?_
    refine ⟨rfl, fun h2 => ?_, fun h2 => ?_⟩
    rotate_left
    · have : i = 0 := by omega
      subst this
      refine Sat.cond ?_
      refine Sat.exit ?_
      exact ⟨l1, ⟨rfl, rfl, rfl, rfl, rfl, trivial⟩, s1, p1, hf1⟩
    obtain ⟨j, rfl⟩ : ∃ j, i = j + 1 := ⟨i - 1, by omega⟩
    refine Sat.cond ?_
    refine Sat.skip ?_
    refine Sat.seq ?_
    refine Sat.block ?_
    refine Sat.region rfl ?_
    have ej : ((j + 1 : Nat) : Int) - 1 = (j : Int) := by omega
    rw [ej, ← hl1]
    refine (sift_fn s1.rebase (f := a) (lo := j) (hi := b - a) (by omega) ⟨fun k k0 kh kl kne => hf1 k k0 kh (by omega), fun k k0 kh kp r0 rl => by omega⟩ (by omega)).mono ?_
    rintro u h2' ⟨l2, s2, p2, hf2⟩
    have s2' := s1.from s2
    refine Sat.region rfl ?_
    refine ⟨rfl, (j : Int) - 1, by rw [wrap_i64 (by omega) (by omega)], ?_⟩
    rw [hl1]
    exact ⟨(j, l2), ⟨rfl, rfl, rfl, rfl, rfl, rfl, trivial⟩, ⟨s2', p1.trans (p2.mono (by omega) (by omega)), by simp only; omega, hf2⟩, by simp only; omega⟩
  rintro l1 h1 ⟨s1, p1, hf1⟩
  have hl1 := p1.len
  refine Sat.seq ?_
  refine Sat.region rfl ?_
  refine ⟨rfl, ((b - a : Nat) : Int) - 1, by rw [wrap_i64 (by omega) (by omega)], ?_⟩
  refine Sat.block ?_
  refine Sat.loop (X := Nat × List Pc) (fun x => [(0, .slice (some ⟨g, 0, none⟩) l.length c), (3, cmpV), (8, .int .i64 (a : Int)), (9, .int .i64 0), (12, .int .i64 ((x.1 : Int) - 1))])
    (fun x h' => SS h g c x.2 h' ∧ PO l x.2 a b ∧ x.1 ≤ b - a ∧ HF x.2 a 0 x.1 ∧ SO keyP x.2 (a + x.1) b ∧ ∀ p q, a ≤ p → p < a + x.1 → a + x.1 ≤ q → q < b → keyP (at_ x.2 p) ≤ keyP (at_ x.2 q)) (fun x => x.1) (b - a, l1) ⟨rfl, rfl, rfl, rfl, rfl, trivial⟩
    ⟨s1, p1, Nat.le_refl _, hf1, SO.small (by simp only; omega), fun p q h1 h2 h3 h4 => by simp only at h3; omega⟩ ?_
  clear hf1 p1 s1 hl1
  rintro ⟨i, l1⟩ h1 ⟨s1, p1, hi, hf1, so1, hle1⟩
  simp only at s1 p1 hi hf1 so1 hle1 ⊢
  have hl1 := p1.len
  refine Sat.seq ?_
  refine Sat.seq ?_
  refine Sat.region rfl ?_
  refine ⟨rfl, fun h2 => ?_, fun h2 => ?_⟩
  rotate_left
  · have : i = 0 := by omega
    subst this
    refine Sat.cond ?_
    refine Sat.exit ?_
    exact ⟨l1, s1, p1, so1⟩
  obtain ⟨j, rfl⟩ : ∃ j, i = j + 1 := ⟨i - 1, by omega⟩
  have ej : ((j + 1 : Nat) : Int) - 1 = (j : Int) := by omega
  rw [ej]
  refine Sat.cond ?_
  refine Sat.skip ?_
  refine Sat.seq ?_
  refine Sat.block ?_
  refine Sat.seq ?_
  refine Sat.drawn .plain rfl (by kernel_rfl) ?_
  refine ⟨rfl, ((a + j : Nat) : Int), by rw [wrap_i64 (by omega) (by omega)]; omega, rfl, ((a + j : Nat) : Int), by rw [wrap_i64 (by omega) (by omega)]; omega, ?_⟩
  refine ⟨⟨g, 0, none⟩, a + j, rfl, rfl, by omega, _, rfl, s1.row (k := a + j) (by omega), ⟨g, 0, none⟩, a, rfl, rfl, by omega, _, rfl, s1.row (k := a) (by omega), ?_⟩
  refine ⟨⟨g, 0, none⟩, a, rfl, rfl, by omega, rfl, one_pc _, s1.cells (k := a) (by omega), ?_⟩
  refine ⟨⟨g, 0, none⟩, a + j, rfl, rfl, by omega, rfl, one_pc _, s1.cells2 (i := a) (k := a + j) (by omega) (by omega) _, ?_⟩
  have s2 := s1.swap (i := a) (k := a + j) (by omega) (by omega)
  have pz : PO l1 (swp l1 a (a + j)) a (a + j + 1) := PO.swp (by omega) (by omega) (by omega)
  have p2 := p1.trans (pz.mono (Nat.le_refl a) (by omega : a + j + 1 ≤ b))
  have at' : ∀ k, at_ (swp l1 a (a + j)) k = if k = a then at_ l1 (a + j) else if k = a + j then at_ l1 a else at_ l1 k := fun k => by rw [swp_at l1 (by omega) (by omega)]; rfl
  have htop := hf1.top
  have hi2 : HI (swp l1 a (a + j)) a 0 j 0 := ⟨fun k k0 kh kl kne => by
    rw [at', at', if_neg (by omega), if_neg (by omega), if_neg (by omega), if_neg (by omega)]
    exact hf1 k k0 (by omega) kl, fun k k0 kh kp r0 => absurd r0 (by omega)⟩
  -- the greatest stands behind them
  have hmax : ∀ p, a ≤ p → p < a + j + 1 → keyP (at_ l1 p) ≤ keyP (at_ l1 a) := fun p h3 h4 => by
    have := htop (p - a) (by omega)
    rwa [show a + (p - a) = p by omega] at this
  have hle2 : ∀ p q, a ≤ p → p < a + j → a + j ≤ q → q < b → keyP (at_ (swp l1 a (a + j)) p) ≤ keyP (at_ (swp l1 a (a + j)) q) := fun p q h3 h4 h5 h6 => by
    obtain ⟨p', e1, e2, e3⟩ : ∃ p', a ≤ p' ∧ p' < a + j + 1 ∧ at_ (swp l1 a (a + j)) p = at_ l1 p' := by
      rw [at']
      by_cases e : p = a
      · exact ⟨a + j, by omega, by omega, by rw [if_pos e]⟩
      · exact ⟨p, h3, by omega, by rw [if_neg e, if_neg (by omega)]⟩
    rw [e3, at' q, if_neg (by omega)]
    by_cases e : q = a + j
    · rw [if_pos e]; exact hmax p' e1 e2
    · rw [if_neg e]; exact hle1 p' q e1 (by omega) (by omega) h6
  have atj : at_ (swp l1 a (a + j)) (a + j) = at_ l1 a := by
    rw [at']
    by_cases e : j = 0
    · subst e; rw [if_pos (by omega)]; rfl
    · rw [if_neg (by omega), if_pos rfl]
  have atq : ∀ q, a + j < q → at_ (swp l1 a (a + j)) q = at_ l1 q := fun q hq => by rw [at', if_neg (by omega), if_neg (by omega)]
  have so2 : SO keyP (swp l1 a (a + j)) (a + j) b := fun p q h3 h4 h5 => by
    rw [atq q (by omega)]
    by_cases e : p = a + j
    · rw [e, atj]; exact hle1 a q (by omega) (by omega) (by omega) h5
    · rw [atq p (by omega)]; exact so1 p q (by omega) h4 h5
  have hl2 : (swp l1 a (a + j)).length = l.length := by rw [swp_length, hl1]
  have hn2 : (swp l1 a (a + j)).Nodup := p2.perm.nodup_iff.2 hn
  generalize swp l1 a (a + j) = l2 at *
  rw [← hl2]
  refine Sat.region rfl ?_
  refine (sift_fn s2.rebase (f := a) (lo := 0) (hi := j) (by omega) hi2 (Nat.zero_le _)).mono ?_
  rintro u h3 ⟨l3, s3, p3, hf3⟩
  have s3' := s2.from s3
  refine Sat.region rfl ?_
  refine ⟨rfl, (j : Int) - 1, by rw [wrap_i64 (by omega) (by omega)], ?_⟩
  refine ⟨(j, l3), ⟨by first | rfl | (rw [hl2]; rfl) | (rw [← hl2]; rfl), rfl, rfl, rfl, rfl, trivial⟩, ⟨s3', p2.trans (p3.mono (by omega) (by omega)), by simp only; omega, hf3, so2.out p3 (.inr (by omega)), fun p q h4 h5 h6 h7 => ?_⟩, by simp only; omega⟩
  rw [p3.out q (.inr (by omega))]
  exact p3.all hn2 (by omega) (Q := fun x => keyP x ≤ keyP (at_ l2 q)) (fun i h8 h9 => hle2 i q (by omega) (by omega) h6 h7) p (by omega) (by omega)
end Go.Proofs.Ytobjkcmiicflmaa
