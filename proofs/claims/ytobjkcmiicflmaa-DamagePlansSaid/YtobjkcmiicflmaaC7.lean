/- pdqsort of at most 40. -/
import Derived.Test.YtobjkcmiicflmaaC4
import Derived.Test.YtobjkcmiicflmaaC5
import Derived.Test.YtobjkcmiicflmaaC6
set_option maxRecDepth 100000
set_option linter.unusedVariables false
namespace Go.Proofs.Ytobjkcmiicflmaa
open Go Go.V Go.V.Heaps

theorem partial_fn {h : Heap} {g c : Nat} {l : List Pc} (hs : SS h g c l h) {a b : Nat} (hab : a < b) (hb : b ≤ l.length) (h40 : b - a ≤ 40) :
    FnS Try.prog 45 [.slice (some ⟨g, 0, none⟩) l.length c, .int .i64 (a : Int), .int .i64 (b : Int), cmpV] h fun u h' => ∃ t, u = .bool t ∧ SS h g c l h' ∧ (t = true → SO keyP l a b) := by
  have hfew := hs.few
  refine FnS.intro Try.func45 rfl rfl rfl ?_
  refine Sat.seq ?_
  refine Sat.region rfl ?_
  refine Sat.seq ?_
  refine Sat.region rfl ?_
  refine ⟨rfl, ((a + 1 : Nat) : Int), by rw [wrap_i64 (by omega) (by omega)]; omega, ?_⟩
  refine Sat.seq ?_
  refine Sat.seq ?_
  refine Sat.region rfl ?_
  refine Sat.block ?_
  refine Sat.loop (X := Unit) (fun _ => [(0, .slice (some ⟨g, 0, none⟩) l.length c), (1, .int .i64 (a : Int)), (2, .int .i64 (b : Int)), (3, cmpV), (9, .int .i64 ((a + 1 : Nat) : Int)), (10, .int .i64 0)]) (fun _ h' => SS h g c l h') (fun _ => 0) () ⟨rfl, rfl, rfl, rfl, rfl, rfl, trivial⟩ hs ?_
  rintro _ h1 s1
  refine Sat.seq ?_
  refine Sat.seq ?_
  refine Sat.region rfl ?_
  refine ⟨rfl, fun _ => ?_, fun h2 => absurd h2 (by decide)⟩
  refine Sat.cond ?_
  refine Sat.skip ?_
  refine Sat.seq ?_
  refine Sat.block ?_
  refine Sat.cut (X := Nat) (fun i => [(0, .slice (some ⟨g, 0, none⟩) l.length c), (1, .int .i64 (a : Int)), (2, .int .i64 (b : Int)), (3, cmpV), (9, .int .i64 (i : Int))]) (fun i h' => SS h g c l h' ∧ SO keyP l a i ∧ i ≤ b) ?_ ?_
  · refine Sat.block ?_
    refine Sat.loop (X := Nat) (fun i => [(0, .slice (some ⟨g, 0, none⟩) l.length c), (1, .int .i64 (a : Int)), (2, .int .i64 (b : Int)), (3, cmpV), (9, .int .i64 (i : Int))]) (fun i h' => SS h g c l h' ∧ SO keyP l a i ∧ a < i ∧ i ≤ b) (fun i => b - i) (a + 1) ⟨rfl, rfl, rfl, rfl, rfl, trivial⟩ ⟨s1, SO.small (Nat.le_refl _), by omega, by omega⟩ ?_
    rintro i h2 ⟨s2, so2, hai, hib⟩
    refine Sat.seq ?_
    refine Sat.seq ?_
    refine Sat.drawn (.old h2.size [33]) rfl (by kernel_rfl) ?_
    refine ⟨rfl, fun h3 => ?_, fun h3 => ?_⟩
    rotate_left
    · refine Sat.cond ?_
      refine Sat.exit ?_
      exact ⟨i, ⟨rfl, rfl, rfl, rfl, rfl, trivial⟩, s2, so2, hib⟩
    refine ⟨⟨g, 0, none⟩, i, rfl, rfl, by omega, ⟨s2.blk (by omega), _, rfl, s2.row (k := i) (by omega), ?_⟩⟩
    refine ⟨rfl, ((i - 1 : Nat) : Int), by rw [wrap_i64 (by omega) (by omega)]; omega, ⟨g, 0, none⟩, i - 1, rfl, rfl, by omega, ⟨s2.blk (by omega), _, rfl, s2.row (k := i - 1) (by omega), ?_⟩⟩
    refine (cmp_fn (at_ l i) (at_ l (i - 1))).mono ?_
    rintro u h4 ⟨rfl, x4⟩
    have s4 := s2.ext x4
    refine ⟨x4.2, rfl, fun h5 => ?_, fun h5 => ?_⟩
    · refine Sat.cond ?_
      refine Sat.exit ?_
      exact ⟨i, ⟨rfl, rfl, rfl, rfl, rfl, trivial⟩, s4, so2, hib⟩
    · have hge : ¬ (at_ l i).at_ < (at_ l (i - 1)).at_ := fun e => by have := (cmp3_neg _ _).2 e; omega
      refine Sat.cond ?_
      refine Sat.skip ?_
      refine Sat.block ?_
      refine Sat.region rfl ?_
      refine ⟨rfl, ((i + 1 : Nat) : Int), by rw [wrap_i64 (by omega) (by omega)]; omega, ?_⟩
      refine ⟨i + 1, ⟨rfl, rfl, rfl, rfl, rfl, trivial⟩, ⟨s4, SO.near fun p hp hpi => ?_, by omega, by omega⟩, by omega⟩
      by_cases e : p + 1 = i
      · subst e
        rw [Nat.add_sub_cancel] at hge
        unfold keyP; omega
      · exact so2 p (p + 1) hp (by omega) (by omega)
  rintro i h2 ⟨s2, so2, hib⟩
  refine Sat.seq ?_
  refine Sat.seq ?_
  refine Sat.region rfl ?_
  refine ⟨rfl, fun h3 => ?_, fun h3 => ?_⟩
  · refine Sat.cond ?_
    refine Sat.seq ?_
    refine Sat.region rfl ?_
    refine Sat.ret ?_
    have : i = b := by omega
    subst this
    exact ⟨true, rfl, s2, fun _ => so2⟩
  · refine Sat.cond ?_
    refine Sat.skip ?_
    refine Sat.seq ?_
    refine Sat.seq ?_
    refine Sat.region rfl ?_
    refine ⟨rfl, ((b - a : Nat) : Int), by rw [wrap_i64 (by omega) (by omega)]; omega, rfl, fun _ => ?_, fun h4 => absurd h4 (by omega)⟩
    refine Sat.cond ?_
    refine Sat.seq ?_
    refine Sat.region rfl ?_
    refine Sat.ret ?_
    exact ⟨false, rfl, s2, fun e => by cases e⟩

/-- No two have the same key. -/
def Keys (l : List Pc) : Prop := (l.map keyP).Nodup
theorem Keys.po {l l' : List Pc} {a b : Nat} (hk : Keys l) (hp : PO l l' a b) : Keys l' := (hp.perm.map keyP).nodup_iff.2 hk
theorem Keys.nodup {l : List Pc} (hk : Keys l) : l.Nodup := List.Pairwise.of_map keyP (fun a b h e => h (by rw [e])) hk
theorem Keys.ne {l : List Pc} (hk : Keys l) {i j : Nat} (hi : i < l.length) (hj : j < l.length) (hij : i ≠ j) : keyP (at_ l i) ≠ keyP (at_ l j) := fun e => hij <| by
  refine (List.getElem?_inj (by simpa using hi) hk).1 ?_
  rw [List.getElem?_map, List.getElem?_map, at_get hi, at_get hj]
  simp [e]

abbrev slV (g n c : Nat) : Value := .slice (some ⟨g, 0, none⟩) n c

theorem pdq_fn : ∀ (d : Nat) {h : Heap} {g c : Nat} {l : List Pc} (hs : SS h g c l h) (hk : Keys l) {a b : Nat} (hd : b - a ≤ d) (hab : a ≤ b) (hb : b ≤ l.length) (h40 : b - a ≤ 40) {lim : Nat} (hlim : lim ≤ 100)
    (hpre : 0 < a → ∀ p, a ≤ p → p < b → keyP (at_ l (a - 1)) < keyP (at_ l p)),
    FnS Try.prog 31 [slV g l.length c, .int .i64 (a : Int), .int .i64 (b : Int), .int .i64 (lim : Int), cmpV] h fun _ h' => ∃ l', SS h g c l' h' ∧ PO l l' a b ∧ SO keyP l' a b := by
  intro d
  induction d using Nat.strongRecOn with
  | _ d ih =>
  intro h g c l hs hk a b hd hab hb h40 lim hlim hpre
  have hfew := hs.few
  refine FnS.intro Try.func31 rfl rfl rfl ?_
  refine Sat.seq ?_
  refine Sat.region rfl ?_
  refine Sat.seq ?_
  refine Sat.region rfl ?_
  refine Sat.block ?_
  refine Sat.loop (X := Nat × Nat × Nat × Bool × Bool × List Pc) (fun x => [(0, slV g l.length c), (1, .int .i64 (x.1 : Int)), (2, .int .i64 (x.2.1 : Int)), (3, .int .i64 (x.2.2.1 : Int)), (4, cmpV), (10, .bool x.2.2.2.1), (11, .bool x.2.2.2.2.1)])
    (fun x h' => SS h g c x.2.2.2.2.2 h' ∧ PO l x.2.2.2.2.2 a b ∧ a ≤ x.1 ∧ x.1 ≤ x.2.1 ∧ x.2.1 ≤ b ∧ x.2.2.1 ≤ 100 ∧ (0 < x.1 → ∀ p, x.1 ≤ p → p < x.2.1 → keyP (at_ x.2.2.2.2.2 (x.1 - 1)) < keyP (at_ x.2.2.2.2.2 p)) ∧
      (∀ l3, PO x.2.2.2.2.2 l3 x.1 x.2.1 → SO keyP l3 x.1 x.2.1 → SO keyP l3 a b)) (fun x => x.2.1 - x.1) (a, b, lim, true, true, l) ⟨rfl, rfl, rfl, rfl, rfl, rfl, rfl, trivial⟩
    ⟨hs, PO.refl _ _ _, Nat.le_refl _, hab, Nat.le_refl _, hlim, hpre, fun l3 _ h => h⟩ ?_
  rintro ⟨a1, b1, lim1, wb, wp, l1⟩ h1 ⟨s1, p1, ha1, hab1, hb1, hlim1, hpre1, hK1⟩
  simp only at s1 p1 ha1 hab1 hb1 hlim1 hpre1 hK1 ⊢
  have hl1 := p1.len
  have hk1 := hk.po p1
  refine Sat.block ?_
  refine Sat.seq ?_
  refine Sat.region rfl ?_
  refine ⟨rfl, ((b1 - a1 : Nat) : Int), by rw [wrap_i64 (by omega) (by omega)]; omega, ?_⟩
  refine Sat.seq ?_
  refine Sat.seq ?_
  refine Sat.region rfl ?_
  refine ⟨rfl, fun h2 => ?_, fun h2 => ?_⟩
  · refine Sat.cond ?_
    refine Sat.seq ?_
    refine Sat.region rfl ?_
    unfold slV
    rw [← hl1]
    refine (insertion_fn s1.rebase (a := a1) (b := b1) (by omega) hab1).mono ?_
    rintro u h3 ⟨l2, s2, p2, so2⟩
    refine Sat.ret ?_
    exact ⟨l2, s1.from s2, p1.trans (p2.mono ha1 hb1), hK1 l2 p2 so2⟩
  have h12 : a1 + 12 < b1 := by omega
  refine Sat.cond ?_
  refine Sat.skip ?_
  refine Sat.seq ?_
  refine Sat.seq ?_
  refine Sat.region rfl ?_
  refine ⟨rfl, fun h3 => ?_, fun h3 => ?_⟩
  · refine Sat.cond ?_
    refine Sat.seq ?_
    refine Sat.region rfl ?_
    unfold slV
    rw [← hl1]
    refine (heapsort_fn s1.rebase hk1.nodup (a := a1) (b := b1) (by omega) (by omega)).mono ?_
    rintro u h3 ⟨l2, s2, p2, so2⟩
    refine Sat.ret ?_
    exact ⟨l2, s1.from s2, p1.trans (p2.mono ha1 hb1), hK1 l2 p2 so2⟩
  refine Sat.cond ?_
  refine Sat.skip ?_
  -- patterns are broken
  refine Sat.cut (X := Nat × List Pc) (fun x => [(0, slV g l.length c), (1, .int .i64 (a1 : Int)), (2, .int .i64 (b1 : Int)), (3, .int .i64 (x.1 : Int)), (4, cmpV), (10, .bool wb), (11, .bool wp), (12, .int .i64 ((b1 - a1 : Nat) : Int))])
    (fun x h' => SS h g c x.2 h' ∧ PO l1 x.2 a1 b1 ∧ x.1 ≤ 100) ?_ ?_
  · refine Sat.seq ?_
    refine Sat.region rfl ?_
    cases wb with
    | true =>
      refine Sat.cond ?_
      refine Sat.skip ?_
      exact ⟨(lim1, l1), ⟨rfl, rfl, rfl, rfl, rfl, rfl, rfl, rfl, trivial⟩, s1, PO.refl _ _ _, hlim1⟩
    | false =>
      refine Sat.cond ?_
      refine Sat.seq ?_
      refine Sat.region rfl ?_
      unfold slV
      rw [← hl1]
      refine (break_fn s1.rebase (a := a1) (b := b1) h12 (by omega) (by omega)).mono ?_
      rintro u h3 ⟨l2, s2, p2⟩
      refine Sat.region rfl ?_
      refine ⟨rfl, ((lim1 - 1 : Nat) : Int), by rw [wrap_i64 (by omega) (by omega)]; omega, ?_⟩
      exact ⟨(lim1 - 1, l2), ⟨rfl, rfl, rfl, rfl, rfl, rfl, rfl, rfl, trivial⟩, s1.from s2, p2, by simp only; omega⟩
  clear s1 hlim1
  rintro ⟨lim2, l2⟩ h3 ⟨s2, p2, hlim2⟩
  simp only at s2 p2 hlim2 ⊢
  have hl2 : l2.length = l.length := by rw [p2.len, hl1]
  refine Sat.seq ?_
  refine Sat.region rfl ?_
  unfold slV
  rw [← hl2]
  refine (pivot_fn s2.own (a := a1) (b := b1) h12 (by omega) (by omega) s2.few).mono ?_
  rintro u h4 ⟨p, t, rfl, hp1, hp2, x4⟩
  have s4 := s2.ext x4
  refine Sat.cut (X := Nat × Int × List Pc) (fun x => [(0, slV g l2.length c), (1, .int .i64 (a1 : Int)), (2, .int .i64 (b1 : Int)), (3, .int .i64 (lim2 : Int)), (4, cmpV), (10, .bool wb), (11, .bool wp), (12, .int .i64 ((b1 - a1 : Nat) : Int)), (13, .int .i64 (x.1 : Int)), (14, .int .i64 x.2.1)])
    (fun x h' => SS h g c x.2.2 h' ∧ PO l1 x.2.2 a1 b1 ∧ a1 ≤ x.1 ∧ x.1 < b1) ?_ ?_
  · refine Sat.seq ?_
    refine Sat.region rfl ?_
    refine ⟨rfl, fun h5 => ?_, fun h5 => ?_⟩
    · refine Sat.cond ?_
      refine Sat.seq ?_
      refine Sat.region rfl ?_
      refine (reverse_fn s4.rebase (a := a1) (b := b1) (by omega) (by omega)).mono ?_
      rintro u h6 ⟨l3, s3, p3⟩
      refine Sat.seq ?_
      refine Sat.region rfl ?_
      refine ⟨rfl, ((b1 - 1 : Nat) : Int), by rw [wrap_i64 (by omega) (by omega)]; omega, rfl, ((p - a1 : Nat) : Int), by rw [wrap_i64 (by omega) (by omega)]; omega, rfl, ((b1 - 1 - (p - a1) : Nat) : Int), by rw [wrap_i64 (by omega) (by omega)]; omega, ?_⟩
      refine Sat.region rfl ?_
      exact ⟨(b1 - 1 - (p - a1), 1, l3), ⟨rfl, rfl, rfl, rfl, rfl, rfl, rfl, rfl, rfl, rfl, trivial⟩, s4.from s3, p2.trans p3, by simp only; omega, by simp only; omega⟩
    · refine Sat.cond ?_
      refine Sat.skip ?_
      exact ⟨(p, t, l2), ⟨rfl, rfl, rfl, rfl, rfl, rfl, rfl, rfl, rfl, rfl, trivial⟩, s4, p2, hp1, hp2⟩
  clear s4 hp1 hp2 x4 s2
  rintro ⟨p, t, l3⟩ h5 ⟨s3, p3, hp1, hp2⟩
  simp only at s3 p3 hp1 hp2 ⊢
  have hl3 : l3.length = l2.length := by rw [p3.len, hl2, hl1]
  have hk3 := hk1.po p3
  rw [← hl3]
  refine Sat.cut (X := Unit) (fun _ => [(0, slV g l3.length c), (1, .int .i64 (a1 : Int)), (2, .int .i64 (b1 : Int)), (3, .int .i64 (lim2 : Int)), (4, cmpV), (10, .bool wb), (11, .bool wp), (12, .int .i64 ((b1 - a1 : Nat) : Int)), (13, .int .i64 (p : Int))])
    (fun _ h' => SS h g c l3 h') ?_ ?_
  · have yes : ∀ h6, SS h g c l3 h6 → SO keyP l3 a1 b1 → ∃ l', SS h g c l' h6 ∧ PO l l' a b ∧ SO keyP l' a b := fun h6 s6 so6 => ⟨l3, s6, p1.trans (p3.mono ha1 hb1), hK1 l3 p3 so6⟩
    have no : ∀ e h6, SS h g c l3 h6 → Sub [(0, slV g l3.length c), (1, .int .i64 (a1 : Int)), (2, .int .i64 (b1 : Int)), (3, .int .i64 (lim2 : Int)), (4, cmpV), (10, .bool wb), (11, .bool wp), (12, .int .i64 ((b1 - a1 : Nat) : Int)), (13, .int .i64 (p : Int))] e → True := fun _ _ _ _ => trivial
    refine Sat.seq ?_
    refine Sat.region rfl ?_
    cases wb with
    | false =>
      refine Sat.cond ?_
      refine Sat.skip ?_
      exact ⟨(), ⟨rfl, rfl, rfl, rfl, rfl, rfl, rfl, rfl, rfl, trivial⟩, s3⟩
    | true =>
      cases wp with
      | false =>
        refine Sat.cond ?_
        refine Sat.skip ?_
        exact ⟨(), ⟨rfl, rfl, rfl, rfl, rfl, rfl, rfl, rfl, rfl, trivial⟩, s3⟩
      | true =>
        refine ⟨rfl, fun h6 => ?_, fun h6 => ?_⟩
        · refine Sat.cond ?_
          refine Sat.seq ?_
          refine Sat.region rfl ?_
          refine (partial_fn s3.rebase (a := a1) (b := b1) (by omega) (by omega) (by omega)).mono ?_
          rintro u h7 ⟨t', rfl, s7, so7⟩
          cases t' with
          | true =>
            refine Sat.cond ?_
            refine Sat.ret ?_
            exact yes h7 (s3.from s7) (so7 rfl)
          | false =>
            refine Sat.cond ?_
            refine Sat.skip ?_
            exact ⟨(), ⟨rfl, rfl, rfl, rfl, rfl, rfl, rfl, rfl, rfl, trivial⟩, s3.from s7⟩
        · refine Sat.cond ?_
          refine Sat.skip ?_
          exact ⟨(), ⟨rfl, rfl, rfl, rfl, rfl, rfl, rfl, rfl, rfl, trivial⟩, s3⟩
  clear s3
  rintro _ h6 s3
  have hpre3 : 0 < a1 → ∀ q, a1 ≤ q → q < b1 → keyP (at_ l3 (a1 - 1)) < keyP (at_ l3 q) := fun h0 q hq1 hq2 => by
    rw [p3.out (a1 - 1) (.inl (by omega))]
    exact p3.all hk1.nodup (by omega) (Q := fun x => keyP (at_ l1 (a1 - 1)) < keyP x) (fun i h8 h9 => hpre1 h0 i h8 h9) q hq1 hq2
  refine Sat.cut (X := Unit) (fun _ => [(0, slV g l3.length c), (1, .int .i64 (a1 : Int)), (2, .int .i64 (b1 : Int)), (3, .int .i64 (lim2 : Int)), (4, cmpV), (12, .int .i64 ((b1 - a1 : Nat) : Int)), (13, .int .i64 (p : Int))])
    (fun _ h' => SS h g c l3 h') ?_ ?_
  · refine Sat.seq ?_
    refine Sat.drawn (.old h6.size [94]) rfl (by kernel_rfl) ?_
    refine ⟨rfl, fun h7 => ?_, fun h7 => ?_⟩
    · refine ⟨rfl, ((a1 - 1 : Nat) : Int), by rw [wrap_i64 (by omega) (by omega)]; omega, ⟨g, 0, none⟩, a1 - 1, rfl, rfl, by omega, ⟨s3.blk (by omega), _, rfl, s3.row (k := a1 - 1) (by omega), ?_⟩⟩
      refine ⟨⟨g, 0, none⟩, p, rfl, rfl, by omega, ⟨s3.blk (by omega), _, rfl, s3.row (k := p) (by omega), ?_⟩⟩
      refine (cmp_fn (at_ l3 (a1 - 1)) (at_ l3 p)).mono ?_
      rintro u h8 ⟨rfl, x8⟩
      have hlt := (cmp3_neg _ _).2 (hpre3 (by omega) p hp1 hp2)
      unfold keyP at hlt
      refine ⟨x8.2, rfl, fun _ => ?_, fun h9 => absurd h9 (by unfold cmp3 at hlt ⊢; omega)⟩
      refine Sat.cond ?_
      refine Sat.skip ?_
      exact ⟨(), ⟨rfl, rfl, rfl, rfl, rfl, rfl, rfl, trivial⟩, s3.ext x8⟩
    · refine Sat.cond ?_
      refine Sat.skip ?_
      exact ⟨(), ⟨rfl, rfl, rfl, rfl, rfl, rfl, rfl, trivial⟩, s3⟩
  clear s3
  rintro _ h7 s3
  refine Sat.seq ?_
  refine Sat.region rfl ?_
  refine (partition_fn s3.rebase (a := a1) (b := b1) (p := p) (by omega) (by omega) ⟨hp1, hp2⟩).mono ?_
  rintro u h8 ⟨m, t', l4, rfl, s4, pt⟩
  have s4' := s3.from s4
  obtain ⟨hm1, hm2⟩ := pt.rng
  have hl4 : l4.length = l3.length := pt.po.len
  have hk4 := hk3.po pt.po
  have p14 := p3.trans pt.po
  have hpre4 : 0 < a1 → ∀ q, a1 ≤ q → q < b1 → keyP (at_ l4 (a1 - 1)) < keyP (at_ l4 q) := fun h0 q hq1 hq2 => by
    rw [pt.po.out (a1 - 1) (.inl (by omega))]
    exact pt.po.all hk3.nodup (by omega) (Q := fun x => keyP (at_ l3 (a1 - 1)) < keyP x) (fun i h8 h9 => hpre3 h0 i h8 h9) q hq1 hq2
  have hhi : ∀ q, m < q → q < b1 → keyP (at_ l4 m) < keyP (at_ l4 q) := fun q hq1 hq2 => by
    have h1 := pt.hi q hq1 hq2
    have h2 := hk4.ne (i := m) (j := q) (by omega) (by omega) (by omega)
    omega
  have hlo := pt.lo
  refine Sat.seq ?_
  refine Sat.region rfl ?_
  refine Sat.seq ?_
  refine Sat.region rfl ?_
  refine ⟨rfl, ((m - a1 : Nat) : Int), by rw [wrap_i64 (by omega) (by omega)]; omega, rfl, ((b1 - m : Nat) : Int), by rw [wrap_i64 (by omega) (by omega)]; omega, ?_⟩
  refine Sat.seq ?_
  refine Sat.region rfl ?_
  refine ⟨rfl, by decide, _, quoI (k := 8) (by omega) (by decide), ?_⟩
  have hll : l.length = l4.length := by omega
  refine Sat.seq ?_
  refine Sat.region rfl ?_
  refine ⟨rfl, fun h9 => ?_, fun h9 => ?_⟩
  · refine Sat.cond ?_
    refine Sat.cut (X := Bool) (fun wb' => [(0, slV g l3.length c), (1, .int .i64 (a1 : Int)), (2, .int .i64 (b1 : Int)), (3, .int .i64 (lim2 : Int)), (4, cmpV), (10, .bool wb'), (11, .bool t'), (16, .int .i64 (m : Int))]) (fun _ h' => h' = h8) ?_ ?_
    · refine Sat.region rfl ?_
      refine ⟨rfl, fun _ => ?_, fun _ => ?_⟩
      · exact ⟨true, ⟨rfl, rfl, rfl, rfl, rfl, rfl, rfl, rfl, trivial⟩, rfl⟩
      · exact ⟨false, ⟨rfl, rfl, rfl, rfl, rfl, rfl, rfl, rfl, trivial⟩, rfl⟩
    rintro wb' h10 rfl
    refine Sat.seq ?_
    refine Sat.region rfl ?_
    rw [← hl4]
    refine (ih (m - a1) (by omega) s4'.rebase hk4 (a := a1) (b := m) (lim := lim2) (Nat.le_refl _) hm1 (by omega) (by omega) hlim2 (fun h0 q hq1 hq2 => hpre4 h0 q hq1 (by omega))).mono ?_
    rintro u h11 ⟨l5, s5, p5, so5⟩
    have s5' := s4'.from s5
    have hl5 := p5.len
    refine Sat.region rfl ?_
    refine ⟨rfl, ((m + 1 : Nat) : Int), by rw [wrap_i64 (by omega) (by omega)]; omega, ?_⟩
    refine ⟨(m + 1, b1, lim2, wb', t', l5), ⟨by first | rfl | (rw [hll]; rfl), rfl, rfl, rfl, rfl, rfl, rfl, trivial⟩, ⟨s5', p1.trans ((p14.trans (p5.mono (Nat.le_refl _) (by omega))).mono ha1 hb1), by simp only; omega, by simp only; omega, hb1, hlim2, fun _ q hq1 hq2 => ?_, fun l6 p6 so6 => ?_⟩, by simp only; omega⟩
    · simp only at hq1 hq2 ⊢
      rw [Nat.add_sub_cancel, p5.out m (.inr (Nat.le_refl _)), p5.out q (.inr (by omega))]
      exact hhi q (by omega) hq2
    · simp only at p6 so6
      have em : at_ l6 m = at_ l4 m := by rw [p6.out m (.inl (by omega)), p5.out m (.inr (Nat.le_refl _))]
      refine hK1 l6 (p14.trans ((p5.mono (Nat.le_refl _) (by omega)).trans (p6.mono (by omega) (Nat.le_refl _)))) (SO.join (so5.out p6 (.inl (by omega))) so6 (fun i hi1 hi2 => ?_) (fun i hi1 hi2 => ?_))
      · rw [em, p6.out i (.inl (by omega))]
        exact p5.all hk4.nodup (by omega) (Q := fun x => keyP x ≤ keyP (at_ l4 m)) (fun j h8 h9 => Int.le_of_lt (hlo j h8 h9)) i hi1 hi2
      · rw [em]
        have hk5 := hk4.po p5
        refine p6.all hk5.nodup (by omega) (Q := fun x => keyP (at_ l4 m) ≤ keyP x) (fun j h8 h9 => ?_) i (by omega) hi2
        rw [p5.out j (.inr (by omega))]
        exact Int.le_of_lt (hhi j (by omega) h9)
  · refine Sat.cond ?_
    refine Sat.cut (X := Bool) (fun wb' => [(0, slV g l3.length c), (1, .int .i64 (a1 : Int)), (2, .int .i64 (b1 : Int)), (3, .int .i64 (lim2 : Int)), (4, cmpV), (10, .bool wb'), (11, .bool t'), (16, .int .i64 (m : Int))]) (fun _ h' => h' = h8) ?_ ?_
    · refine Sat.region rfl ?_
      refine ⟨rfl, fun _ => ?_, fun _ => ?_⟩
      · exact ⟨true, ⟨rfl, rfl, rfl, rfl, rfl, rfl, rfl, rfl, trivial⟩, rfl⟩
      · exact ⟨false, ⟨rfl, rfl, rfl, rfl, rfl, rfl, rfl, rfl, trivial⟩, rfl⟩
    rintro wb' h10 rfl
    refine Sat.seq ?_
    refine Sat.region rfl ?_
    refine ⟨rfl, ((m + 1 : Nat) : Int), by rw [wrap_i64 (by omega) (by omega)]; omega, ?_⟩
    rw [← hl4]
    refine (ih (b1 - (m + 1)) (by omega) s4'.rebase hk4 (a := m + 1) (b := b1) (lim := lim2) (Nat.le_refl _) (by omega) (by omega) (by omega) hlim2 (fun _ q hq1 hq2 => by rw [Nat.add_sub_cancel]; exact hhi q (by omega) hq2)).mono ?_
    rintro u h11 ⟨l5, s5, p5, so5⟩
    have s5' := s4'.from s5
    have hl5 := p5.len
    refine Sat.region rfl ?_
    refine ⟨(a1, m, lim2, wb', t', l5), ⟨by first | rfl | (rw [hll]; rfl), rfl, rfl, rfl, rfl, rfl, rfl, trivial⟩, ⟨s5', p1.trans ((p14.trans (p5.mono (by omega) (Nat.le_refl _))).mono ha1 hb1), ha1, hm1, by simp only; omega, hlim2, fun h0 q hq1 hq2 => ?_, fun l6 p6 so6 => ?_⟩, by simp only; omega⟩
    · simp only at hq1 hq2 h0 ⊢
      rw [p5.out (a1 - 1) (.inl (by omega)), p5.out q (.inl (by omega))]
      exact hpre4 h0 q hq1 (by omega)
    · simp only at p6 so6
      have hk5 := hk4.po p5
      have em : at_ l6 m = at_ l4 m := by rw [p6.out m (.inr (Nat.le_refl _)), p5.out m (.inl (by omega))]
      refine hK1 l6 (p14.trans ((p5.mono (by omega) (Nat.le_refl _)).trans (p6.mono (Nat.le_refl _) (by omega)))) (SO.join so6 (so5.out p6 (.inr (by omega))) (fun i hi1 hi2 => ?_) (fun i hi1 hi2 => ?_))
      · rw [em]
        refine p6.all hk5.nodup (by omega) (Q := fun x => keyP x ≤ keyP (at_ l4 m)) (fun j h8 h9 => ?_) i hi1 hi2
        rw [p5.out j (.inl (by omega))]
        exact Int.le_of_lt (hlo j h8 h9)
      · rw [em, p6.out i (.inr (by omega))]
        exact p5.all hk4.nodup (by omega) (Q := fun x => keyP (at_ l4 m) ≤ keyP x) (fun j h8 h9 => Int.le_of_lt (hhi j (by omega) h9)) i (by omega) hi2
end Go.Proofs.Ytobjkcmiicflmaa
