/- Choosing a pivot; turning a range round; is it sorted already. -/
import Derived.Test.YtobjkcmiicflmaaC2
set_option maxRecDepth 100000
set_option linter.unusedVariables false
namespace Go.Proofs.Ytobjkcmiicflmaa
open Go Go.V Go.V.Heaps

/-- The slice, as it is read. -/
def RO (g c : Nat) (l : List Pc) (h : Heap) : Prop := Own h g 49 4 (.slice (some ⟨g, 0, none⟩) l.length c) l.length (l.flatMap pcC)
theorem RO.row {g c : Nat} {l : List Pc} {h : Heap} (hs : RO g c l h) {k : Nat} (hk : k < l.length) : Row h ((⟨g, 0, none⟩ : Addr).add (k * 4)) (pcC (at_ l k)) := by
  obtain ⟨g', c', e, _, _, hrow, _⟩ := hs.ptr (by omega)
  injection e with e
  injection e with e
  injection e with e
  subst e
  exact hrow.elem pcC_len (at_get hk)
theorem RO.lt {g c : Nat} {l : List Pc} {h : Heap} (hs : RO g c l h) {k : Nat} (hk : k < l.length) : g < h.size := by
  have := cellH_lt (hs.row hk 0 _ rfl)
  rwa [add_block, add_block] at this
theorem RO.chg {g c b : Nat} {l : List Pc} {h h' : Heap} (hs : RO g c l h) (hx : Chg (fun k => k = b) h h') (hb : b ≠ g) : RO g c l h' := Own.chg hs hx fun g' hg' e => by
  injection hg' with hg'
  subst hg'
  exact hb e.symm

theorem order2_fn {h : Heap} {g c bS : Nat} {l : List Pc} (hs : RO g c l h) {a b : Nat} (ha : a < l.length) (hb : b < l.length) {z : Int} (hz : Blk h bS 3 #[.int .i64 z]) :
    FnS Try.prog 66 [.slice (some ⟨g, 0, none⟩) l.length c, .int .i64 (a : Int), .int .i64 (b : Int), .pointer (some ⟨bS, 0, none⟩), cmpV] h fun u h' =>
      ∃ a' b' : Nat, u = .tuple #[.int .i64 (a' : Int), .int .i64 (b' : Int)] ∧ ((a' = a ∧ b' = b) ∨ (a' = b ∧ b' = a)) ∧ Chg (fun k => k = bS) h h' ∧ ∃ z', Blk h' bS 3 #[.int .i64 z'] := by
  refine FnS.intro Try.func66 rfl rfl rfl ?_
  refine Sat.seq ?_
  refine Sat.region rfl ?_
  refine Sat.seq ?_
  refine Sat.seq ?_
  refine Sat.drawn (.old h.size [21]) rfl (by kernel_rfl) ?_
  refine ⟨⟨g, 0, none⟩, b, rfl, rfl, hb, ⟨by rw [add_block]; exact hs.lt hb, _, rfl, hs.row hb, ?_⟩⟩
  refine ⟨⟨g, 0, none⟩, a, rfl, rfl, ha, ⟨by rw [add_block]; exact hs.lt ha, _, rfl, hs.row ha, ?_⟩⟩
  refine (cmp_fn (at_ l b) (at_ l a)).mono ?_
  rintro u h4 ⟨rfl, x4⟩
  have b4 := hz.ext x4
  refine ⟨x4.2, rfl, fun h5 => ?_, fun h5 => ?_⟩
  · refine Sat.cond ?_
    refine Sat.seq ?_
    refine Sat.region rfl ?_
    refine ⟨.int .i64 z, b4.cell 0, rfl, _, rfl, ?_⟩
    refine ⟨rfl, rfl, ⟨_, b4.cell 0⟩, b4.free 0, ?_⟩
    refine Sat.seq ?_
    refine Sat.region rfl ?_
    refine Sat.ret ?_
    exact ⟨b, a, rfl, .inr ⟨rfl, rfl⟩, (x4.chg _).trans (setH_chg _ _ _), _, b4.set 0 _⟩
  · refine Sat.cond ?_
    refine Sat.skip ?_
    refine Sat.seq ?_
    refine Sat.region rfl ?_
    refine Sat.ret ?_
    exact ⟨a, b, rfl, .inl ⟨rfl, rfl⟩, x4.chg _, z, b4⟩

theorem median_fn {h : Heap} {g c bS : Nat} {l : List Pc} (hs : RO g c l h) (hgb : bS ≠ g) {a b d : Nat} (ha : a < l.length) (hb : b < l.length) (hd : d < l.length) {z : Int} (hz : Blk h bS 3 #[.int .i64 z]) :
    FnS Try.prog 60 [.slice (some ⟨g, 0, none⟩) l.length c, .int .i64 (a : Int), .int .i64 (b : Int), .int .i64 (d : Int), .pointer (some ⟨bS, 0, none⟩), cmpV] h fun u h' =>
      ∃ m : Nat, u = .int .i64 (m : Int) ∧ (m = a ∨ m = b ∨ m = d) ∧ Chg (fun k => k = bS) h h' ∧ ∃ z', Blk h' bS 3 #[.int .i64 z'] := by
  refine FnS.intro Try.func60 rfl rfl rfl ?_
  refine Sat.seq ?_
  refine Sat.region rfl ?_
  refine Sat.seq ?_
  refine Sat.region rfl ?_
  refine (order2_fn hs ha hb hz).mono ?_
  rintro u h1 ⟨a1, b1, rfl, e1, c1, z1, bz1⟩
  have ha1 : a1 < l.length := by omega
  have hb1 : b1 < l.length := by omega
  have hs1 := hs.chg c1 hgb
  refine Sat.seq ?_
  refine Sat.region rfl ?_
  refine (order2_fn hs1 hb1 hd bz1).mono ?_
  rintro u h2 ⟨b2, d2, rfl, e2, c2, z2, bz2⟩
  have hb2 : b2 < l.length := by omega
  have hs2 := hs1.chg c2 hgb
  refine Sat.seq ?_
  refine Sat.region rfl ?_
  refine (order2_fn hs2 ha1 hb2 bz2).mono ?_
  rintro u h3 ⟨a3, b3, rfl, e3, c3, z3, bz3⟩
  refine Sat.seq ?_
  refine Sat.region rfl ?_
  refine Sat.ret ?_
  exact ⟨b3, rfl, by omega, c1.trans (c2.trans c3), z3, bz3⟩

theorem quoI {a k : Nat} (h : a ≤ 1000000) (hk : 0 < k) : IntKind.i64.wrap ((a : Int).tdiv (k : Int)) = ((a / k : Nat) : Int) := by
  have : (a : Int).tdiv (k : Int) = ((a / k : Nat) : Int) := rfl
  rw [this]
  have := Nat.div_le_self a k
  generalize a / k = d at *
  exact wrap_i64 (by omega) (by omega)

theorem pivot_fn {h : Heap} {g c : Nat} {l : List Pc} (hs : RO g c l h) {a b : Nat} (hab : a + 12 < b) (hb : b ≤ l.length) (h40 : b - a ≤ 40) (hfew : l.length ≤ 1000000) :
    FnS Try.prog 43 [.slice (some ⟨g, 0, none⟩) l.length c, .int .i64 (a : Int), .int .i64 (b : Int), cmpV] h fun u h' =>
      ∃ (p : Nat) (t : Int), u = .tuple #[.int .i64 (p : Int), .int .i64 t] ∧ a ≤ p ∧ p < b ∧ Ext h h' := by
  refine FnS.intro Try.func43 rfl rfl rfl ?_
  refine Sat.seq ?_
  refine Sat.region rfl ?_
  refine Sat.seq ?_
  refine Sat.region rfl ?_
  refine ⟨rfl, ((b - a : Nat) : Int), by rw [wrap_i64 (by omega) (by omega)]; omega, ?_⟩
  refine Sat.seq ?_
  refine Sat.region rfl ?_
  obtain ⟨hA, eA⟩ : ∃ hA, hA = h.push (.cells #[.int .i64 0] 3) := ⟨_, rfl⟩
  have xA : Ext h hA := by rw [eA]; exact Ext.push h _
  have bA : Blk hA h.size 3 #[.int .i64 0] := by rw [eA]; exact Blk.new h _ _
  refine Sat.at eA.symm ?_
  have hg : g < h.size := hs.lt (k := a) (by omega)
  have hsA : RO g c l hA := Own.ext hs xA
  have q1 : ((b - a) / 4 : Nat) ≤ 10 := by omega
  refine Sat.seq ?_
  refine Sat.region rfl ?_
  refine ⟨rfl, by decide, _, quoI (k := 4) (by omega) (by decide), rfl, (((b - a) / 4 : Nat) : Int), by rw [wrap_i64 (by omega) (by omega)]; omega, rfl, ((a + (b - a) / 4 : Nat) : Int), by rw [wrap_i64 (by omega) (by omega)]; omega, ?_⟩
  refine Sat.seq ?_
  refine Sat.region rfl ?_
  refine ⟨rfl, by decide, _, quoI (k := 4) (by omega) (by decide), rfl, (((b - a) / 4 * 2 : Nat) : Int), by rw [wrap_i64 (by omega) (by omega)]; omega, rfl, ((a + (b - a) / 4 * 2 : Nat) : Int), by rw [wrap_i64 (by omega) (by omega)]; omega, ?_⟩
  refine Sat.seq ?_
  refine Sat.region rfl ?_
  refine ⟨rfl, by decide, _, quoI (k := 4) (by omega) (by decide), rfl, (((b - a) / 4 * 3 : Nat) : Int), by rw [wrap_i64 (by omega) (by omega)]; omega, rfl, ((a + (b - a) / 4 * 3 : Nat) : Int), by rw [wrap_i64 (by omega) (by omega)]; omega, ?_⟩
  refine Sat.seq ?_
  refine Sat.seq ?_
  refine Sat.region rfl ?_
  refine ⟨rfl, fun _ => ?_, fun h1 => absurd h1 (by omega)⟩
  refine Sat.cond ?_
  refine Sat.seq ?_
  refine Sat.seq ?_
  refine Sat.region rfl ?_
  refine ⟨rfl, fun h1 => absurd h1 (by omega), fun _ => ?_⟩
  refine Sat.cond ?_
  refine Sat.skip ?_
  refine Sat.region rfl ?_
  refine (median_fn hsA (by omega) (show a + (b - a) / 4 < l.length by omega) (show a + (b - a) / 4 * 2 < l.length by omega) (show a + (b - a) / 4 * 3 < l.length by omega) bA).mono ?_
  rintro u h1 ⟨m, rfl, hm, c1, z, bz⟩
  have x1 : Ext h h1 := xA.then_new c1 fun k hk => by subst hk; exact Nat.le_refl _
  refine Sat.seq ?_
  refine Sat.region rfl ?_
  refine ⟨.int .i64 z, bz.cell 0, ?_⟩
  refine Sat.block ?_
  refine Sat.seq ?_
  refine Sat.region rfl ?_
  refine ⟨rfl, fun h2 => ?_, fun h2 => ?_⟩
  · refine Sat.cond ?_
    refine Sat.seq ?_
    refine Sat.region rfl ?_
    refine Sat.ret ?_
    exact ⟨m, 1, rfl, by omega, by omega, x1⟩
  · refine Sat.cond ?_
    refine Sat.seq ?_
    refine Sat.region rfl ?_
    refine ⟨rfl, fun h3 => ?_, fun h3 => ?_⟩
    · refine Sat.cond ?_
      refine Sat.seq ?_
      refine Sat.region rfl ?_
      refine Sat.ret ?_
      exact ⟨m, 2, rfl, by omega, by omega, x1⟩
    · refine Sat.cond ?_
      refine Sat.seq ?_
      refine Sat.region rfl ?_
      refine Sat.ret ?_
      exact ⟨m, 0, rfl, by omega, by omega, x1⟩

theorem reverse_fn {h : Heap} {g c : Nat} {l : List Pc} (hs : SS h g c l h) {a b : Nat} (hab : a < b) (hb : b ≤ l.length) :
    FnS Try.prog 44 [.slice (some ⟨g, 0, none⟩) l.length c, .int .i64 (a : Int), .int .i64 (b : Int), cmpV] h fun _ h' => ∃ l', SS h g c l' h' ∧ PO l l' a b := by
  have hfew := hs.few
  refine FnS.intro Try.func44 rfl rfl rfl ?_
  refine Sat.seq ?_
  refine Sat.region rfl ?_
  refine Sat.seq ?_
  refine Sat.region rfl ?_
  refine ⟨rfl, ((b - 1 : Nat) : Int), by rw [wrap_i64 (by omega) (by omega)]; omega, ?_⟩
  refine Sat.block ?_
  refine Sat.loop (X := Nat × Nat × List Pc) (fun x => [(0, .slice (some ⟨g, 0, none⟩) l.length c), (8, .int .i64 (x.1 : Int)), (9, .int .i64 (x.2.1 : Int))])
    (fun x h' => SS h g c x.2.2 h' ∧ PO l x.2.2 a b ∧ a ≤ x.1 ∧ x.2.1 < b ∧ x.1 ≤ b) (fun x => b - x.1) (a, b - 1, l) ⟨rfl, rfl, rfl, trivial⟩ ⟨hs, PO.refl _ _ _, Nat.le_refl _, by simp only; omega, by simp only; omega⟩ ?_
  rintro ⟨i, j, l1⟩ h1 ⟨s1, p1, hai, hjb, hib⟩
  simp only at s1 p1 hai hjb hib ⊢
  have hl1 := p1.len
  refine Sat.seq ?_
  refine Sat.seq ?_
  refine Sat.region rfl ?_
  refine ⟨rfl, fun h2 => ?_, fun h2 => ?_⟩
  rotate_left
  · refine Sat.cond ?_
    refine Sat.exit ?_
    exact ⟨l1, s1, p1⟩
  have hij : i < j := by omega
  refine Sat.cond ?_
  refine Sat.skip ?_
  refine Sat.block ?_
  refine Sat.seq ?_
  refine Sat.drawn .plain rfl (by kernel_rfl) ?_
  refine ⟨⟨g, 0, none⟩, j, rfl, rfl, by omega, _, rfl, s1.row (k := j) (by omega), ⟨g, 0, none⟩, i, rfl, rfl, by omega, _, rfl, s1.row (k := i) (by omega), ?_⟩
  refine ⟨⟨g, 0, none⟩, i, rfl, rfl, by omega, rfl, one_pc _, s1.cells (k := i) (by omega), ?_⟩
  refine ⟨⟨g, 0, none⟩, j, rfl, rfl, by omega, rfl, one_pc _, s1.cells2 (i := i) (k := j) (by omega) (by omega) _, ?_⟩
  have s5 := s1.swap (i := i) (k := j) (by omega) (by omega)
  refine Sat.seq ?_
  refine Sat.region rfl ?_
  refine ⟨rfl, ((i + 1 : Nat) : Int), by rw [wrap_i64 (by omega) (by omega)]; omega, ?_⟩
  refine Sat.region rfl ?_
  refine ⟨rfl, ((j - 1 : Nat) : Int), by rw [wrap_i64 (by omega) (by omega)]; omega, ?_⟩
  exact ⟨(i + 1, j - 1, swp l1 i j), ⟨rfl, rfl, rfl, trivial⟩, ⟨s5, p1.trans (PO.swp (by omega) (by omega) (by omega)), by simp only; omega, by simp only; omega, by simp only; omega⟩, by simp only; omega⟩
end Go.Proofs.Ytobjkcmiicflmaa
