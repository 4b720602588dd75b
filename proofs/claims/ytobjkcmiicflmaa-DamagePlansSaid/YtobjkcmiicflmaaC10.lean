/- The pile serves container/heap. -/
import Derived.Test.YtobjkcmiicflmaaC9
import Derived.Test.YtobjkcmiicflmaaV9
set_option maxRecDepth 100000
set_option linter.unusedVariables false
namespace Go.Proofs.Ytobjkcmiicflmaa
open Go Go.V Go.V.Heaps

def wd (x : Pc) : Int := wid x.left x.right
def plLess (x y : Pc) : Bool := decide (firstNZ [cmp3 (wd y) (wd x), cmp3 x.row y.row, cmp3 x.left y.left, cmp3 x.at_ y.at_] < 0)
def plLt (x y : Pc) : Prop := wd y < wd x ∨ (wd y = wd x ∧ (x.row < y.row ∨ (x.row = y.row ∧ (x.left < y.left ∨ (x.left = y.left ∧ x.at_ < y.at_)))))
def plLe (x y : Pc) : Prop := wd y < wd x ∨ (wd y = wd x ∧ (x.row < y.row ∨ (x.row = y.row ∧ (x.left < y.left ∨ (x.left = y.left ∧ x.at_ ≤ y.at_)))))
theorem cmp3_zero (a b : Int) : cmp3 a b = 0 ↔ a = b := by unfold cmp3; split <;> (try split) <;> omega
theorem plLess_iff (x y : Pc) : plLess x y = true ↔ plLt x y := by
  unfold plLess plLt
  rw [decide_eq_true_iff]
  simp only [firstNZ]
  have n1 := cmp3_neg (wd y) (wd x)
  have n2 := cmp3_neg x.row y.row
  have n3 := cmp3_neg x.left y.left
  have n4 := cmp3_neg x.at_ y.at_
  have z1 := cmp3_zero (wd y) (wd x)
  have z2 := cmp3_zero x.row y.row
  have z3 := cmp3_zero x.left y.left
  have z4 := cmp3_zero x.at_ y.at_
  by_cases c1 : cmp3 (wd y) (wd x) = 0
  · rw [if_pos c1]
    by_cases c2 : cmp3 x.row y.row = 0
    · rw [if_pos c2]
      by_cases c3 : cmp3 x.left y.left = 0
      · rw [if_pos c3]
        by_cases c4 : cmp3 x.at_ y.at_ = 0
        · rw [if_pos c4]; omega
        · rw [if_neg c4]; omega
      · rw [if_neg c3]; omega
    · rw [if_neg c2]; omega
  · rw [if_neg c1]; omega
theorem plOrd : Order plLess plLe where
  trans := fun {a b c} h1 h2 => by unfold plLe at *; omega
  ofLess := fun {a b} h => by have := (plLess_iff a b).1 h; unfold plLt at this; unfold plLe; omega
  ofNot := fun {a b} h => by
    have : ¬ plLt a b := fun e => by rw [(plLess_iff a b).2 e] at h; cases h
    unfold plLt at this; unfold plLe; omega

theorem i65 : slInfo Try.prog 65 = some (3, 1, .int .i64 0, 8) := by kernel_rfl

theorem pless_fn {h : Heap} {g n c : Nat} {i k : Nat} (hi : i < n) (hk : k < n) {x y : Pc} (hx : Row h ((⟨g, 0, none⟩ : Addr).add (i * 4)) (pcC x)) (hy : Row h ((⟨g, 0, none⟩ : Addr).add (k * 4)) (pcC y)) (ox : OkPc x) (oy : OkPc y) :
    FnS Try.prog 87 [.slice (some ⟨g, 0, none⟩) n c, .int .i64 (i : Int), .int .i64 (k : Int)] h fun u h' => u = .bool (plLess x y) ∧ Ext h h' := by
  have g1 := cellH_lt (hx 0 _ rfl)
  have g2 := cellH_lt (hy 0 _ rfl)
  rw [add_block] at g1 g2
  refine FnS.intro Try.func87 rfl rfl rfl ?_
  refine Sat.seq ?_
  refine Sat.region rfl ?_
  obtain ⟨hA, eA⟩ : ∃ hA, hA = h.push (.cells #[.int .i64 0, .int .i64 0, .int .i64 0, .int .i64 0] 49) := ⟨_, rfl⟩
  have xA : Ext h hA := by rw [eA]; exact Ext.push h _
  have bA : Blk hA h.size 49 #[.int .i64 0, .int .i64 0, .int .i64 0, .int .i64 0] := by rw [eA]; exact Blk.new h _ _
  obtain ⟨hB, eB⟩ : ∃ hB, hB = hA.push (.cells #[.int .i64 0, .int .i64 0, .int .i64 0, .int .i64 0] 49) := ⟨_, rfl⟩
  have xB : Ext hA hB := by rw [eB]; exact Ext.push hA _
  have bB : Blk hB hA.size 49 #[.int .i64 0, .int .i64 0, .int .i64 0, .int .i64 0] := by rw [eB]; exact Blk.new hA _ _
  have sA : hA.size = h.size + 1 := by rw [eA, Array.size_push]
  have bA2 := bA.ext xB
  have e1 : h.push (.cells (Value.agg #[.int .i64 0, .int .i64 0, .int .i64 0, .int .i64 0]).cells 49) = hA := eA.symm
  have e2 : hA.push (.cells (Value.agg #[.int .i64 0, .int .i64 0, .int .i64 0, .int .i64 0]).cells 49) = hB := eB.symm
  refine Sat.cut (X := Nat × Nat) (fun z => [(7, .pointer (some ⟨z.1, 0, none⟩)), (8, .pointer (some ⟨z.2, 0, none⟩))]) (fun z h' => Ext h h' ∧ Blk h' z.1 49 (pcC x).toArray ∧ Blk h' z.2 49 (pcC y).toArray) ?_ ?_
  · refine Sat.drawn2 (.olds h.size []) 8 rfl (by kernel_rfl) rfl ?_
    refine ⟨⟨g, 0, none⟩, i, rfl, rfl, hi, ⟨g1, _, rfl, hx, ?_⟩⟩
    refine ⟨⟨g, 0, none⟩, k, rfl, rfl, hk, ⟨g2, _, rfl, hy, ?_⟩⟩
    refine ⟨?_, ?_⟩
    rotate_left
    refine ⟨(Ext.push h _).2, ?_⟩
    rw [e1]
    refine ⟨fun k hk => (Ext.push hA _).2 k (Nat.lt_of_lt_of_le hk xA.1), ?_⟩
    rw [e2]
    refine ⟨rfl, one_pc x, bB.okAt (by decide), ?_⟩
    refine ⟨fun k hk => (setRow_new (xA.trans xB) (by omega) 0 _).2 k hk |>.trans ((xA.trans xB).2 k hk).symm, ?_⟩
    obtain ⟨hC, eC⟩ : ∃ hC, hC = setRow hB ⟨hA.size, 0, none⟩ (pcC x) 0 := ⟨_, rfl⟩
    have xC : Ext h hC := by rw [eC]; exact setRow_new (xA.trans xB) (by omega) _ _
    have bC : Blk hC hA.size 49 (pcC x).toArray := by rw [eC]; exact bB.whole rfl
    have bC2 : Blk hC h.size 49 #[.int .i64 0, .int .i64 0, .int .i64 0, .int .i64 0] := by rw [eC]; exact bA2.chg (setRow_chg _ _ _ _) (fun e => absurd (show h.size = hA.size from e) (by omega))
    have e3 : setRow hB ⟨hA.size, 0, none⟩ (pcC x).toArray.toList 0 = hC := eC.symm
    rw [e3]
    refine ⟨rfl, one_pc y, bC2.okAt (by decide), ?_⟩
    refine ⟨fun k hk => (setRow_new xC (by omega) 0 _).2 k hk |>.trans (xC.2 k hk).symm, ?_⟩
    refine ⟨(hA.size, h.size), ⟨rfl, rfl, trivial⟩, setRow_new xC (by omega) _ _, bC.chg (setRow_chg _ _ _ _) (fun e => absurd (show hA.size = h.size from e) (by omega)), bC2.whole rfl⟩
    refine ⟨(Ext.push h _).2, ?_⟩
    rw [e1]
    refine ⟨fun k hk => (Ext.push hA _).2 k (Nat.lt_of_lt_of_le hk xA.1), ?_⟩
    rw [e2]
    refine ⟨rfl, one_pc x, bA2.okAt (by decide), ?_⟩
    refine ⟨fun k hk => (setRow_new (xA.trans xB) (by omega) 0 _).2 k hk |>.trans ((xA.trans xB).2 k hk).symm, ?_⟩
    obtain ⟨hC, eC⟩ : ∃ hC, hC = setRow hB ⟨h.size, 0, none⟩ (pcC x) 0 := ⟨_, rfl⟩
    have xC : Ext h hC := by rw [eC]; exact setRow_new (xA.trans xB) (by omega) _ _
    have bC : Blk hC h.size 49 (pcC x).toArray := by rw [eC]; exact bA2.whole rfl
    have bC2 : Blk hC hA.size 49 #[.int .i64 0, .int .i64 0, .int .i64 0, .int .i64 0] := by rw [eC]; exact bB.chg (setRow_chg _ _ _ _) (fun e => absurd (show hA.size = h.size from e) (by omega))
    have e3 : setRow hB ⟨h.size, 0, none⟩ (pcC x).toArray.toList 0 = hC := eC.symm
    rw [e3]
    refine ⟨rfl, one_pc y, bC2.okAt (by decide), ?_⟩
    refine ⟨fun k hk => (setRow_new xC (by omega) 0 _).2 k hk |>.trans (xC.2 k hk).symm, ?_⟩
    refine ⟨(h.size, hA.size), ⟨rfl, rfl, trivial⟩, setRow_new xC (by omega) _ _, bC.chg (setRow_chg _ _ _ _) (fun e => absurd (show h.size = hA.size from e) (by omega)), bC2.whole rfl⟩
  rintro ⟨b7, b8⟩ hD ⟨xD, bD, bD2⟩
  simp only at xD bD bD2 ⊢
  have l1 := bD.lt
  have l2 := bD2.lt
  have rx : Row hD ⟨b7, 0, none⟩ [.int .i64 x.row, .int .i64 x.left, .int .i64 x.right] := bD.row.take 3
  have ry : Row hD ⟨b8, 0, none⟩ [.int .i64 y.row, .int .i64 y.left, .int .i64 y.right] := bD2.row.take 3
  refine Sat.seq ?_
  refine Sat.drawn (.old hD.size [19, 22, 23, 30, 37, 42, 44]) rfl (by kernel_rfl) ?_
  refine ⟨by decide, l2, [.int .i64 y.row, .int .i64 y.left, .int .i64 y.right], rfl, ry, ?_⟩
  refine (width_fn y.row y.left y.right oy.1 oy.2).mono ?_
  rintro u h1 ⟨rfl, x1⟩
  refine ⟨x1.2, ?_⟩
  refine ⟨by decide, l1, [.int .i64 x.row, .int .i64 x.left, .int .i64 x.right], rfl, rx.ext x1, ?_⟩
  refine (width_fn x.row x.left x.right ox.1 ox.2).mono ?_
  rintro u h2 ⟨rfl, x2⟩
  have x12 := x1.trans x2
  refine ⟨fun k hk => x2.2 k (Nat.lt_of_lt_of_le hk x1.1), ?_⟩
  refine (compare_fn (wd y) (wd x)).mono ?_
  rintro u h3 ⟨rfl, rfl⟩
  refine ⟨fun _ _ => rfl, ?_⟩
  have bX := bD.ext x12
  have bY := bD2.ext x12
  refine ⟨by decide, by decide, l1, .int .i64 x.row, bX.cell 0, by decide, by decide, l2, .int .i64 y.row, bY.cell 0, ?_⟩
  refine (compare_fn x.row y.row).mono ?_
  rintro u h4 ⟨rfl, rfl⟩
  refine ⟨fun _ _ => rfl, ?_⟩
  refine ⟨by decide, by decide, l1, .int .i64 x.left, bX.cell 1, by decide, by decide, l2, .int .i64 y.left, bY.cell 1, ?_⟩
  refine (compare_fn x.left y.left).mono ?_
  rintro u h5 ⟨rfl, rfl⟩
  refine ⟨fun _ _ => rfl, ?_⟩
  refine ⟨by decide, l1, .int .i64 x.at_, bX.cell 3, by decide, l2, .int .i64 y.at_, bY.cell 3, ?_⟩
  refine (compare_fn x.at_ y.at_).mono ?_
  rintro u h6 ⟨rfl, rfl⟩
  refine ⟨fun _ _ => rfl, ?_⟩
  refine lit_some i65 rfl rfl (cells := ([cmp3 (wd y) (wd x), cmp3 x.row y.row, cmp3 x.left y.left, cmp3 x.at_ y.at_].map (Value.int .i64 ·)).toArray) (by kernel_rfl) ?_
  obtain ⟨hE, eE⟩ : ∃ hE, hE = h6.push (.cells ([cmp3 (wd y) (wd x), cmp3 x.row y.row, cmp3 x.left y.left, cmp3 x.at_ y.at_].map (Value.int .i64 ·)).toArray 3) := ⟨_, rfl⟩
  have xE : Ext h6 hE := by rw [eE]; exact Ext.push h6 _
  have bE : Blk hE h6.size 3 ([cmp3 (wd y) (wd x), cmp3 x.row y.row, cmp3 x.left y.left, cmp3 x.at_ y.at_].map (Value.int .i64 ·)).toArray := by rw [eE]; exact Blk.new h6 _ _
  rw [← eE]
  refine ⟨fun k hk => xE.2 k (Nat.lt_of_lt_of_le hk x12.1), ?_⟩
  refine (or_fn [cmp3 (wd y) (wd x), cmp3 x.row y.row, cmp3 x.left y.left, cmp3 x.at_ y.at_] (by simp) bE.row).mono ?_
  rintro u h7 ⟨rfl, rfl⟩
  refine ⟨fun _ _ => rfl, rfl, fun h8 => ?_, fun h8 => ?_⟩
  · refine Sat.ret ?_
    exact ⟨by unfold plLess; rw [decide_eq_true h8], xD.trans (x12.trans xE)⟩
  · refine Sat.ret ?_
    exact ⟨by unfold plLess; rw [decide_eq_false (by omega)], xD.trans (x12.trans xE)⟩
end Go.Proofs.Ytobjkcmiicflmaa
