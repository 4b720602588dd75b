/- Boxes; a page in memory; what is looked at of it. -/
import Derived.Test.YtobjkcmiicflmaaL4
set_option maxRecDepth 100000
set_option linter.unusedVariables false
namespace Go.Proofs.Ytobjkcmiicflmaa
open Go Go.V

structure Bx where
  t : Int
  l : Int
  b : Int
  r : Int
deriving DecidableEq
def bxC (x : Bx) : List Value := [.int .i64 x.t, .int .i64 x.l, .int .i64 x.b, .int .i64 x.r]
def empB (x : Bx) : Bool := decide (x.b ≤ x.t ∨ x.r ≤ x.l)
theorem empB_true {x : Bx} (h : x.b ≤ x.t ∨ x.r ≤ x.l) : empB x = true := decide_eq_true h
theorem empB_false {x : Bx} (h : ¬ (x.b ≤ x.t ∨ x.r ≤ x.l)) : empB x = false := decide_eq_false h

theorem empty_fn {h : Heap} (x : Bx) : FnS Try.prog 63 [.agg (bxC x).toArray] h fun u h' => u = .bool (empB x) ∧ Ext h h' := by
  refine FnS.go Try.func63 rfl rfl rfl rfl ?_
  intro g1 h1 n1
  refine ⟨by decide, _, n1.blk.cell 0, by decide, _, n1.blk.cell 2, rfl, fun h2 => ?_, fun h2 => ?_⟩
  · exact ⟨by rw [empB_true (.inl h2)], n1.ext⟩
  · refine ⟨by decide, _, n1.blk.cell 1, by decide, _, n1.blk.cell 3, rfl, fun h3 => ?_, fun h3 => ?_⟩
    · exact ⟨by rw [empB_true (.inr h3)], n1.ext⟩
    · exact ⟨by rw [empB_false (by omega)], n1.ext⟩

theorem whole_fn {h : Heap} (r c : Int) : FnS Try.prog 64 [.int .i64 r, .int .i64 c] h fun u h' => u = .agg (bxC ⟨0, 0, max 0 r, max 0 c⟩).toArray ∧ Ext h h' := by
  refine FnS.go Try.func64 rfl rfl rfl rfl ?_
  intro g1 h1 n1
  refine ⟨_, rfl, _, rfl, ?_⟩
  refine build_strct rfl rfl rfl (cells := (bxC ⟨0, 0, max 0 r, max 0 c⟩).toArray) (by kernel_rfl) ?_
  refine ⟨rfl, n1.can rfl, fun h2 p2 => ?_⟩
  have n2 := n1.put p2 rfl
  exact ⟨_, rfl, n2.row, rfl, n2.ext⟩

def meet0 (a b : Bx) : Bx := ⟨max a.t b.t, max a.l b.l, min a.b b.b, min a.r b.r⟩
def meet (a b : Bx) : Bx := if empB a = true ∨ empB b = true ∨ empB (meet0 a b) = true then ⟨0, 0, 0, 0⟩ else meet0 a b
theorem meet_fn {h : Heap} (a b : Bx) : FnS Try.prog 51 [.agg (bxC a).toArray, .agg (bxC b).toArray] h fun u h' => u = .agg (bxC (meet a b)).toArray ∧ Ext h h' := by
  refine FnS.go Try.func51 rfl rfl rfl rfl ?_
  intro g2 h2 n2 g3 h3 n3 g4 h4 n4
  have x4 := n2.ext.trans (n3.ext.trans n4.ext)
  have b2 := n2.blk.ext (n3.ext.trans n4.ext)
  have b3 := n3.blk.ext n4.ext
  refine ⟨by decide, _, b2.cell 0, by decide, _, b3.cell 0, _, rfl, by decide, _, b2.cell 1, by decide, _, b3.cell 1, _, rfl, by decide, _, b2.cell 2, by decide, _, b3.cell 2, _, rfl, by decide, _, b2.cell 3, by decide, _, b3.cell 3, _, rfl, ?_⟩
  refine build_strct rfl rfl rfl (cells := (bxC (meet0 a b)).toArray) (by kernel_rfl) ?_
  intro g5 h5 n5
  refine ⟨rfl, n5.can rfl, fun h6 p6 => ?_⟩
  have n6 := n5.put p6 rfl
  have x6 := x4.trans n6.ext
  have b26 := b2.ext n6.ext
  have b36 := b3.ext n6.ext
  have b46 := n4.blk.ext n6.ext
  have hg4 : h.size ≤ g4 := by rw [n4.is]; exact (n2.ext.trans n3.ext).1
  have fin : ∀ {h7 h8 : Heap} {vs : List Value}, Ext h6 h7 → Put h7 ⟨g4, 0, none⟩ vs h8 → vs.length = 4 → Blk h8 g4 41 vs.toArray ∧ Ext h h8 := fun x p hl =>
    ⟨p.all (b46.ext x) hl, p.ext (x6.trans x) hg4⟩
  refine ⟨_, rfl, b26.row, ?_⟩
  refine (empty_fn a).mono ?_
  rintro u h7 ⟨rfl, x7⟩
  cases ha : empB a with
  | true =>
    refine build_strct rfl rfl rfl (cells := (bxC ⟨0, 0, 0, 0⟩).toArray) (by kernel_rfl) ?_
    refine ⟨rfl, (b46.ext x7).can rfl, fun h8 p8 => ?_⟩
    obtain ⟨b8, x8⟩ := fin x7 p8 rfl
    exact ⟨_, rfl, b8.row, by unfold meet; rw [if_pos (.inl ha)], x8⟩
  | false =>
    refine ⟨_, rfl, (b36.ext x7).row, ?_⟩
    refine (empty_fn b).mono ?_
    rintro u h8 ⟨rfl, x8⟩
    have x78 := x7.trans x8
    cases hb : empB b with
    | true =>
      refine build_strct rfl rfl rfl (cells := (bxC ⟨0, 0, 0, 0⟩).toArray) (by kernel_rfl) ?_
      refine ⟨rfl, (b46.ext x78).can rfl, fun h9 p9 => ?_⟩
      obtain ⟨b9, x9⟩ := fin x78 p9 rfl
      exact ⟨_, rfl, b9.row, by unfold meet; rw [if_pos (.inr (.inl hb))], x9⟩
    | false =>
      refine ⟨_, rfl, (n6.blk.ext x78).row, ?_⟩
      refine (empty_fn (meet0 a b)).mono ?_
      rintro u h9 ⟨rfl, x9⟩
      have x79 := x78.trans x9
      cases hm : empB (meet0 a b) with
      | true =>
        refine build_strct rfl rfl rfl (cells := (bxC ⟨0, 0, 0, 0⟩).toArray) (by kernel_rfl) ?_
        refine ⟨rfl, (b46.ext x79).can rfl, fun h10 p10 => ?_⟩
        obtain ⟨b10, x10⟩ := fin x79 p10 rfl
        exact ⟨_, rfl, b10.row, by unfold meet; rw [if_pos (.inr (.inr hm))], x10⟩
      | false =>
        refine ⟨_, rfl, (n6.blk.ext x79).row, rfl, (b46.ext x79).can rfl, fun h10 p10 => ?_⟩
        obtain ⟨b10, x10⟩ := fin x79 p10 rfl
        exact ⟨_, rfl, b10.row, by unfold meet; rw [if_neg (by simp [ha, hb, hm])], x10⟩

/-! ### a page in memory -/
def lnC (z : Value × Ln) : List Value := [z.1, .int .i64 z.2.size]
theorem lnC_len (z : Value × Ln) : (lnC z).length = 2 := rfl
theorem iLines : slInfo Try.prog 59 = some (71, 2, .agg #[.slice none 0 0, .int .i64 0], 32) := by kernel_rfl
def Apart (zs : List (Value × Ln)) : Prop := zs.Pairwise fun a b => ∀ k, a.1.ownBlock = some k → ¬ b.1.ownBlock = some k
/-- The page at g: its lines' slice is vl, its lines (with their cells' slices) zs, of cols cells each; all of it lies in memory made from base on. -/
structure PgAt (h : Heap) (base g : Nat) (vl : Value) (zs : List (Value × Ln)) (cols : Nat) : Prop where
  var : Blk h g 61 #[vl, .int .i64 (cols : Int)]
  own : Own h base 71 2 vl zs.length (zs.flatMap lnC)
  cells : ∀ z ∈ zs, OwnC h base z.1 z.2.cells ∧ z.2.cells.length = cols
  apart : Apart zs
  rows : zs.length ≤ 500
  cols : cols ≤ 500
  base : base ≤ g
def Foot (g : Nat) (vl : Value) (zs : List (Value × Ln)) (k : Nat) : Prop := k = g ∨ vl.ownBlock = some k ∨ ∃ z ∈ zs, z.1.ownBlock = some k

section
variable {h h' : Heap} {base g : Nat} {vl : Value} {zs : List (Value × Ln)} {cols : Nat}
theorem PgAt.chg (hp : PgAt h base g vl zs cols) {S : Nat → Prop} (hx : Chg S h h') (hs : ∀ k, Foot g vl zs k → ¬ S k) : PgAt h' base g vl zs cols :=
  ⟨hp.var.chg hx (hs g (.inl rfl)), hp.own.chg hx fun k hk => hs k (.inr (.inl hk)), fun z hz => ⟨(hp.cells z hz).1.chg hx fun k hk => hs k (.inr (.inr ⟨z, hz, hk⟩)), (hp.cells z hz).2⟩, hp.apart, hp.rows, hp.cols, hp.base⟩
theorem PgAt.ext (hp : PgAt h base g vl zs cols) (hx : Ext h h') : PgAt h' base g vl zs cols := hp.chg (hx.chg fun _ => False) fun _ _ => id
theorem PgAt.foot (hp : PgAt h base g vl zs cols) : ∀ k, Foot g vl zs k → base ≤ k ∧ k < h.size := fun k hk => by
  rcases hk with rfl | hk | ⟨z, hz, hk⟩
  · exact ⟨hp.base, hp.var.lt⟩
  · exact hp.own.base_le k hk
  · exact (hp.cells z hz).1.base_le k hk
theorem PgAt.line (hp : PgAt h base g vl zs cols) {i : Nat} {z : Value × Ln} (hz : zs[i]? = some z) : ∃ gl c, vl = .slice (some ⟨gl, 0, none⟩) zs.length c ∧ Row h ⟨gl, i * 2, none⟩ (lnC z) ∧ gl < h.size ∧ LnV h (.agg (lnC z).toArray) z.2 := by
  obtain ⟨gl, c, e, _, hlt, hrow, _⟩ := hp.own.ptr (by have := (List.getElem?_eq_some_iff.1 hz).1; omega)
  have := hrow.elem lnC_len hz
  rw [add_plain, Nat.zero_add] at this
  have hm := List.mem_of_getElem? hz
  exact ⟨gl, c, e, this, hlt, _, rfl, OwnC.cels (hp.cells z hm).1⟩

theorem rows_fn (hp : PgAt h base g vl zs cols) : FnS Try.prog 26 [.pointer (some ⟨g, 0, none⟩)] h fun u h' => u = .int .i64 (zs.length : Int) ∧ h' = h := by
  obtain ⟨A, c, rfl, hc⟩ := hp.own.slice
  refine FnS.go Try.func26 rfl rfl rfl rfl ?_
  refine ⟨by decide, _, hp.var.cell 0, ?_⟩
  exact ⟨rfl, rfl⟩
theorem cols_fn (hp : PgAt h base g vl zs cols) : FnS Try.prog 27 [.pointer (some ⟨g, 0, none⟩)] h fun u h' => u = .int .i64 (cols : Int) ∧ h' = h := by
  refine FnS.go Try.func27 rfl rfl rfl rfl ?_
  refine ⟨by decide, _, hp.var.cell 1, ?_⟩
  exact ⟨rfl, rfl⟩
theorem there_fn (hp : PgAt h base g vl zs cols) (row : Int) : FnS Try.prog 38 [.pointer (some ⟨g, 0, none⟩), .int .i64 row] h fun u h' => u = .bool (decide (0 ≤ row ∧ row < zs.length)) ∧ h' = h := by
  obtain ⟨A, c, rfl, hc⟩ := hp.own.slice
  refine FnS.go Try.func38 rfl rfl rfl rfl ?_
  refine ⟨rfl, fun h1 => ?_, fun h1 => ?_⟩
  · refine ⟨by decide, _, hp.var.cell 0, rfl, fun h2 => ?_, fun h2 => ?_⟩
    · exact ⟨by rw [decide_eq_true ⟨h1, h2⟩], rfl⟩
    · exact ⟨by rw [decide_eq_false (by omega)], rfl⟩
  · exact ⟨by rw [decide_eq_false (by omega)], rfl⟩
def pageBx (rows cols : Nat) : Bx := ⟨0, 0, rows, cols⟩
theorem box_fn (hp : PgAt h base g vl zs cols) : FnS Try.prog 52 [.pointer (some ⟨g, 0, none⟩)] h fun u h' => u = .agg (bxC (pageBx zs.length cols)).toArray ∧ Ext h h' := by
  obtain ⟨A, c, rfl, hc⟩ := hp.own.slice
  refine FnS.go Try.func52 rfl rfl rfl rfl ?_
  intro g2 h2 n2
  have p2 := hp.ext n2.ext
  refine St.drawn (.old h2.size [12]) (by kernel_rfl) ?_
  refine ⟨by decide, p2.var.lt, _, p2.var.cell 0, by decide, p2.var.lt, _, p2.var.cell 1, ?_⟩
  refine (whole_fn (zs.length : Int) (cols : Int)).mono ?_
  rintro u h3 ⟨rfl, x3⟩
  have b2 := n2.blk.ext x3
  refine ⟨x3.2, rfl, b2.can rfl, fun h4 p4 => ?_⟩
  have b4 := p4.all b2 rfl
  refine ⟨_, rfl, b4.row, ?_, p4.ext (n2.ext.trans x3) (by rw [n2.is]; exact Nat.le_refl _)⟩
  rw [show max 0 (zs.length : Int) = (zs.length : Int) by omega, show max 0 (cols : Int) = (cols : Int) by omega]
  rfl
theorem on_fn (hp : PgAt h base g vl zs cols) (b : Bx) : FnS Try.prog 36 [.pointer (some ⟨g, 0, none⟩), .agg (bxC b).toArray] h fun u h' => u = .agg (bxC (meet b (pageBx zs.length cols))).toArray ∧ Ext h h' := by
  refine FnS.go Try.func36 rfl rfl rfl rfl ?_
  intro g3 h3 n3 g4 h4 n4
  have x4 := n3.ext.trans n4.ext
  have b3 := n3.blk.ext n4.ext
  refine St.drawn (.old h4.size [7, 8]) (by kernel_rfl) ?_
  refine ⟨b3.lt, _, rfl, b3.row, ?_⟩
  refine (box_fn (hp.ext x4)).mono ?_
  rintro u h5 ⟨rfl, x5⟩
  refine ⟨x5.2, ?_⟩
  refine (meet_fn b _).mono ?_
  rintro u h6 ⟨rfl, x6⟩
  have x56 := x5.trans x6
  have b4 := n4.blk.ext x56
  refine ⟨fun k hk => x6.2 k (Nat.lt_of_lt_of_le hk x5.1), rfl, b4.can rfl, fun h7 p7 => ?_⟩
  have b7 := p7.all b4 rfl
  exact ⟨_, rfl, b7.row, rfl, p7.ext (x4.trans x56) (by rw [n4.is]; exact n3.ext.1)⟩

def lineAt (zs : List (Value × Ln)) (row : Int) : Ln := if 0 ≤ row ∧ row < zs.length then ((zs[row.toNat]?).map (·.2)).getD ⟨[], 0⟩ else ⟨[], 0⟩
theorem line_fn (hp : PgAt h base g vl zs cols) (row : Int) : FnS Try.prog 29 [.pointer (some ⟨g, 0, none⟩), .int .i64 row] h fun u h' => Ext h h' ∧ OwnL h' h.size u (lineAt zs row) := by
  refine FnS.go Try.func29 rfl rfl rfl rfl ?_
  intro g4 h4 n4
  have hp4 := hp.ext n4.ext
  refine (there_fn hp4 row).mono ?_
  rintro u h5 ⟨rfl, rfl⟩
  by_cases hr : 0 ≤ row ∧ row < zs.length
  · rw [decide_eq_true hr]
    obtain ⟨i, rfl⟩ : ∃ i : Nat, row = i := ⟨row.toNat, by omega⟩
    have hi : i < zs.length := by omega
    have hz : zs[i]? = some zs[i] := List.getElem?_eq_getElem hi
    generalize zs[i] = z at hz
    obtain ⟨gl, c, rfl, hrow, hlt, hln⟩ := hp4.line hz
    have hll := (hp.cells z (List.mem_of_getElem? hz)).2
    have hco := hp.cols
    refine ⟨by decide, _, hp4.var.cell 0, ⟨gl, 0, none⟩, i, rfl, rfl, hi, _, rfl, by rw [add_plain, Nat.zero_add]; exact hrow, ?_⟩
    refine (copyLine_fn hln (by omega)).mono ?_
    rintro u h6 ⟨x6, v6, rfl, o6⟩
    obtain ⟨A6, c6, rfl, hc6⟩ := o6.slice
    have b4 := n4.blk.ext x6
    refine ⟨rfl, b4.can rfl, fun h7 p7 => ?_⟩
    have b7 := p7.all b4 rfl
    have e1 : lineAt zs (i : Int) = z.2 := by unfold lineAt; rw [if_pos hr, Int.toNat_natCast, hz]; rfl
    refine ⟨_, rfl, b7.row, p7.ext (n4.ext.trans x6) (by rw [n4.is]; exact Nat.le_refl _), _, by rw [e1], ?_⟩
    rw [e1]
    exact Own.mono (o6.chg p7.chg fun g' hg' e => by have := (o6.base_le g' hg').1; rw [n4.size] at this; have := n4.is; have e : g' = g4 := e; omega) n4.ext.1
  · rw [decide_eq_false hr]
    refine build_strct rfl rfl rfl (cells := #[.slice none 0 0, .int .i64 0]) (by kernel_rfl) ?_
    refine ⟨rfl, n4.can rfl, fun h6 p6 => ?_⟩
    have n6 := n4.put p6 rfl
    have e1 : lineAt zs row = ⟨[], 0⟩ := by unfold lineAt; rw [if_neg hr]
    exact ⟨_, rfl, n6.row, n6.ext, _, by rw [e1], by rw [e1]; exact Own.nil _ _ _ _⟩
end
end Go.Proofs.Ytobjkcmiicflmaa
