/- Lines: New, Copy, part, each, Fill, Resize. -/
import Derived.Test.YtobjkcmiicflmaaL2
set_option maxRecDepth 100000
set_option linter.unusedVariables false
namespace Go.Proofs.Ytobjkcmiicflmaa
open Go Go.V

structure Ln where
  cells : List Cel
  size : Int
deriving DecidableEq
instance : Inhabited Ln := ⟨⟨[], 0⟩⟩
/-- The value u is the line l; its cells lie in memory made from base on. -/
def OwnL (h : Heap) (base : Nat) (u : Value) (l : Ln) : Prop := ∃ v, u = .agg #[v, .int .i64 l.size] ∧ OwnC h base v l.cells
def LnV (h : Heap) (u : Value) (l : Ln) : Prop := ∃ v, u = .agg #[v, .int .i64 l.size] ∧ CelsV h v l.cells
theorem OwnL.ext {h h' : Heap} (hx : Ext h h') {b : Nat} {u : Value} {l : Ln} (ho : OwnL h b u l) : OwnL h' b u l := by
  obtain ⟨v, e, ho⟩ := ho; exact ⟨v, e, ho.ext hx⟩
theorem OwnL.mono {h : Heap} {b b' : Nat} {u : Value} {l : Ln} (ho : OwnL h b u l) (hb : b' ≤ b) : OwnL h b' u l := by
  obtain ⟨v, e, ho⟩ := ho; exact ⟨v, e, ho.mono hb⟩
theorem LnV.ext {h h' : Heap} (hx : Ext h h') {u : Value} {l : Ln} (ho : LnV h u l) : LnV h' u l := by
  obtain ⟨v, e, ho⟩ := ho; exact ⟨v, e, ho.ext hx⟩
theorem OwnC.cels {h : Heap} {b : Nat} {v : Value} {l : List Cel} (ho : OwnC h b v l) : CelsV h v l := Own.cels ho rfl
theorem OwnL.ln {h : Heap} {b : Nat} {u : Value} {l : Ln} (ho : OwnL h b u l) : LnV h u l := by
  obtain ⟨v, e, ho⟩ := ho; exact ⟨v, e, OwnC.cels ho⟩
theorem OwnC.row {h : Heap} {b n c g : Nat} {l : List Cel} (ho : OwnC h b (.slice (some ⟨g, 0, none⟩) n c) l) (h0 : 0 < l.length) : Row h ⟨g, 0, none⟩ (l.flatMap celC) := by
  obtain ⟨g', c', e, _, _, hrow, _⟩ := Own.ptr ho h0
  injection e with e
  injection e with e
  injection e with e
  subst e
  exact hrow

theorem blank_fn {h : Heap} {n : Nat} (hn : n ≤ 1000) : FnS Try.prog 50 [.int .i64 (n : Int)] h fun u h' => Ext h h' ∧ OwnC h' h.size u (List.replicate n blankC) := by
  refine FnS.go Try.func50 rfl rfl rfl rfl ?_
  refine erased_fn.mono ?_
  rintro u h1 ⟨rfl, x1⟩
  refine one_lit iCells (x := .agg (celC blankC).toArray) rfl ?_
  intro g h2 n2
  refine (repeat_fn (x := blankC) n2.row hn).mono ?_
  rintro u h3 ⟨x3, o3⟩
  exact ⟨x1.trans (n2.ext.trans x3), Own.mono o3 (Nat.le_trans x1.1 n2.ext.1)⟩

def clamp0 (n : Int) : Nat := (max 0 (min n 500)).toNat
theorem clamp0_int (n : Int) : max 0 (min n 500) = (clamp0 n : Int) := by unfold clamp0; omega
theorem clamp0_le (n : Int) : clamp0 n ≤ 500 := by unfold clamp0; omega
theorem clamp0_nat {n : Nat} (h : n ≤ 500) : clamp0 (n : Int) = n := by unfold clamp0; omega
def newLn (n : Nat) : Ln := ⟨List.replicate n blankC, 0⟩

theorem newLine_fn {h : Heap} {n : Int} : FnS Try.prog 35 [.int .i64 n] h fun u h' => Ext h h' ∧ OwnL h' h.size u (newLn (clamp0 n)) := by
  refine FnS.go Try.func35 rfl rfl rfl rfl ?_
  intro g h1 n1
  refine ⟨_, rfl, (clamp0 n : Int), clamp0_int n, ?_⟩
  refine (blank_fn (by have := clamp0_le n; omega)).mono ?_
  rintro v h2 ⟨x2, o2⟩
  obtain ⟨A, c, rfl, hc⟩ := o2.slice
  refine build_strct rfl rfl rfl (cells := #[.slice A (List.replicate (clamp0 n) blankC).length c, .int .i64 0]) (by kernel_rfl) ?_
  refine ⟨rfl, (n1.blk.ext x2).can rfl, fun h3 p3 => ?_⟩
  have b3 := p3.all (n1.blk.ext x2) rfl
  have x3 : Ext h h3 := p3.ext (n1.ext.trans x2) (by rw [n1.is]; exact Nat.le_refl _)
  refine ⟨_, rfl, b3.row, x3, _, rfl, ?_⟩
  exact Own.mono (o2.chg p3.chg fun g' hg' e => by have := (o2.base_le g' hg').1; rw [n1.size] at this; have := n1.is; have e : g' = g := e; omega) n1.ext.1

theorem clone_fn {h : Heap} {v : Value} {l : List Cel} (hv : CelsV h v l) (hn : l.length ≤ 1000000) : FnS Try.prog 55 [v] h fun u h' => Ext h h' ∧ OwnC h' h.size u l := by
  obtain ⟨A, c, rfl, hc, hr⟩ := hv
  refine FnS.go Try.func55 rfl rfl rfl rfl ?_
  refine eq_nil_slice rfl rfl ?_
  cases A with
  | none =>
    refine ⟨Ext.refl h, ?_⟩
    have : l = [] := by rcases hr with h0 | ⟨p, hp, _⟩; exact h0; cases hp
    subst this
    exact Own.nil _ _ _ _
  | some p =>
    refine zero_lit iCells ?_
    intro g h1 n1
    have o1 := n1.own0 (base := h.size) (es := 3) (Nat.le_refl _)
    refine append_to iCells o1 (news := l.flatMap celC) (flat_length celC_len l) ?_ (one_cels l) (by omega) n1.ext.1 ?_
    · rcases hr with h0 | ⟨q, hq, hrow⟩
      · exact .inl (by rw [h0]; rfl)
      · injection hq with hq
        subst hq
        exact .inr ⟨p, rfl, hrow.ext n1.ext⟩
    intro v2 h2 o2 c2 _
    refine ⟨n1.ext.then_new c2 fun i hi => by injection hi with hi; have := n1.is; have hi : g = i := hi; omega, ?_⟩
    simpa [OwnC] using o2

theorem copyLine_fn {h : Heap} {u : Value} {l : Ln} (hu : LnV h u l) (hn : l.cells.length ≤ 1000000) : FnS Try.prog 39 [u] h fun u' h' => Ext h h' ∧ OwnL h' h.size u' l := by
  obtain ⟨v, rfl, hv⟩ := hu
  obtain ⟨A, c, rfl, hc, hr⟩ := hv
  refine FnS.go Try.func39 rfl rfl rfl rfl ?_
  intro g1 h1 n1
  intro g2 h2 n2
  have b1 := n1.blk.ext n2.ext
  have x2 := n1.ext.trans n2.ext
  refine St.drawn (.old h2.size [5]) (by kernel_rfl) ?_
  refine ⟨by decide, b1.lt, _, b1.cell 0, ?_⟩
  refine (clone_fn (l := l.cells) ⟨A, c, rfl, hc, hr.imp id fun ⟨p, hp, hrow⟩ => ⟨p, hp, hrow.ext x2⟩⟩ hn).mono ?_
  rintro v3 h3 ⟨x3, o3⟩
  have b13 := b1.ext x3
  refine ⟨x3.2, by decide, b1.lt, _, b13.cell 1, ?_⟩
  obtain ⟨A3, c3, rfl, hc3⟩ := o3.slice
  refine build_strct rfl rfl rfl (cells := #[.slice A3 l.cells.length c3, .int .i64 l.size]) (by kernel_rfl) ?_
  refine ⟨rfl, (n2.blk.ext x3).can rfl, fun h4 p4 => ?_⟩
  have b4 := p4.all (n2.blk.ext x3) rfl
  have x4 : Ext h h4 := p4.ext (x2.trans x3) (by rw [n2.is]; exact n1.ext.1)
  refine ⟨_, rfl, b4.row, x4, _, rfl, ?_⟩
  exact Own.mono (o3.chg p4.chg fun g' hg' e => by have := (o3.base_le g' hg').1; rw [n2.size] at this; have := n2.is; have e : g' = g2 := e; omega) x2.1

def spanA (lo : Int) : Int := max lo 0
def spanN (n lo hi : Int) : Int := max (max lo 0) (min hi n) - max lo 0
theorem span_fn {h : Heap} {n lo hi : Int} (hn : 0 ≤ n ∧ n ≤ 1000000) (hlo : lo ≤ 9223372036854775807) : FnS Try.prog 68 [.int .i64 n, .int .i64 lo, .int .i64 hi] h fun u h' => u = .tuple #[.int .i64 (spanA lo), .int .i64 (spanN n lo hi)] ∧ h' = h := by
  refine FnS.go Try.func68 rfl rfl rfl rfl ?_
  refine ⟨_, rfl, _, rfl, _, rfl, rfl, spanN n lo hi, wrap_i64 (by omega) (by omega), ?_⟩
  exact ⟨rfl, rfl⟩
/-- Where a span within n cells begins, how long it is. -/
def spA (n : Nat) (lo hi : Int) : Nat := if spanN n lo hi = 0 then 0 else (spanA lo).toNat
def spN (n : Nat) (lo hi : Int) : Nat := (spanN n lo hi).toNat
theorem spN_int (n : Nat) (lo hi : Int) : spanN n lo hi = (spN n lo hi : Int) := by unfold spN spanN; omega
theorem sp_fit (n : Nat) (lo hi : Int) : spA n lo hi + spN n lo hi ≤ n := by unfold spA spN spanA spanN; split <;> omega

/-- Where a span of one's own cells lies: nowhere, or k cells on. -/
def SubV (v : Value) (a n : Nat) (s : Value) : Prop := (n = 0 ∧ s = .slice none 0 0) ∨ ∃ g N C, v = .slice (some ⟨g, 0, none⟩) N C ∧ s = .slice (some ⟨g, a * 3, none⟩) n (C - a)
theorem part_fn {h : Heap} {u : Value} {l : Ln} {lo hi : Int} (hu : LnV h u l) (hn : l.cells.length ≤ 1000000) (hlo : lo ≤ 9223372036854775807) :
    FnS Try.prog 65 [u, .int .i64 lo, .int .i64 hi] h fun r h' => ∃ v s, r = .tuple #[.agg #[v, .int .i64 l.size], s] ∧ Ext h h' ∧ OwnC h' h.size v l.cells ∧ SubV v (spA l.cells.length lo hi) (spN l.cells.length lo hi) s := by
  have hu' := hu
  obtain ⟨v, rfl, hv⟩ := hu
  obtain ⟨A, c, rfl, hc, hr⟩ := hv
  refine FnS.go Try.func65 rfl rfl rfl rfl ?_
  intro g3 h3 n3 g6 h6 n6
  have x6 := n3.ext.trans n6.ext
  have b3 := n3.blk.ext n6.ext
  refine ⟨_, rfl, b3.row, ?_⟩
  refine (copyLine_fn (l := l) (hu'.ext x6) hn).mono ?_
  rintro u h7 ⟨x7, v7, rfl, o7⟩
  obtain ⟨A7, c7, rfl, hc7⟩ := o7.slice
  intro g8 h8 n8
  refine ⟨rfl, n8.can rfl, fun h9 p9 => ?_⟩
  have n9 := n8.put p9 rfl
  have x69 := x7.trans n9.ext
  have b39 := b3.ext x69
  refine ⟨by decide, _, b39.cell 0, ?_⟩
  refine (span_fn (by omega) hlo).mono ?_
  rintro u h10 ⟨rfl, rfl⟩
  have o9 := o7.ext n9.ext
  have b6 := n6.blk.ext x69
  have hs6 := n6.size
  have fin : ∀ {h11 : Heap}, Put h10 ⟨g6, 0, none⟩ [.slice A7 l.cells.length c7, .int .i64 l.size] h11 → Ext h h11 ∧ OwnC h11 h.size (.slice A7 l.cells.length c7) l.cells ∧ Blk h11 g6 71 #[.slice A7 l.cells.length c7, .int .i64 l.size] := fun p => by
    refine ⟨p.ext (x6.trans x69) (by rw [n6.is]; exact n3.ext.1), Own.mono (o9.chg p.chg fun g' hg' e => ?_) x6.1, p.all b6 rfl⟩
    have := (o7.base_le g' hg').1
    rw [hs6] at this; have := n6.is; have e : g' = g6 := e; omega
  have hsp := spN_int l.cells.length lo hi
  have hfit := sp_fit l.cells.length lo hi
  refine ⟨rfl, fun h0 => ?_, fun h0 => ?_⟩
  · refine ⟨_, rfl, n9.row, rfl, b6.can rfl, fun h11 p11 => ?_⟩
    obtain ⟨a1, a2, a3⟩ := fin p11
    refine ⟨_, rfl, a3.row, _, _, rfl, a1, a2, .inl ⟨by omega, rfl⟩⟩
  · refine St.drawn (.kept (fun k => k = g8) []) (by kernel_rfl) ?_
    have hlen : 0 < l.cells.length := by unfold spN spanN at *; omega
    obtain ⟨g, c', e, _, _, _, _⟩ := o7.ptr hlen
    injection e with e1 _ _
    subst e1
    have hA : spanA lo = (spA l.cells.length lo hi : Int) := by unfold spA; rw [if_neg (by rw [hsp]; omega)]; unfold spanA; omega
    rw [hsp, hA]
    refine ⟨rfl, _, rfl, n9.row, by decide, rfl, _, n9.blk.cell 0, rfl, ((spA l.cells.length lo hi + spN l.cells.length lo hi : Nat) : Int), by rw [wrap_i64 (by omega) (by omega)]; omega, ?_⟩
    refine ⟨spA l.cells.length lo hi, spA l.cells.length lo hi + spN l.cells.length lo hi, c7, rfl, rfl, rfl, (fun h => nomatch h), by omega, by omega, Nat.le_refl _, _, spN l.cells.length lo hi, c7 - spA l.cells.length lo hi, rfl, by omega, rfl, ?_⟩
    have hne : g8 ≠ g6 := by have := n6.blk.lt; have := n8.is; have := x7.1; omega
    refine ⟨rfl, b6.can rfl, fun h11 p11 => ⟨fun k hk => p11.chg.2 k (by rw [hk]; exact n9.blk.lt) (fun e => hne (hk.symm.trans e)), ?_⟩⟩
    obtain ⟨a1, a2, a3⟩ := fin p11
    refine ⟨_, rfl, a3.row, _, _, rfl, a1, a2, .inr ⟨g, _, c7, rfl, ?_⟩⟩
    rw [if_neg (by omega)]
    simp [add_plain]
end Go.Proofs.Ytobjkcmiicflmaa
