/- Pieces; how two are held against one another; the sorted slice. -/
import Derived.Test.YtobjkcmiicflmaaV7
import Derived.Test.YtobjkcmiicflmaaP1
import Derived.Test.YtobjkcmiicflmaaTab
set_option maxRecDepth 100000
set_option linter.unusedVariables false
namespace Go.Proofs.Ytobjkcmiicflmaa
open Go Go.V Go.V.Heaps

structure Pc where
  row : Int
  left : Int
  right : Int
  at_ : Int
deriving DecidableEq
instance : Inhabited Pc := ⟨⟨0, 0, 0, 0⟩⟩
def pcC (x : Pc) : List Value := [.int .i64 x.row, .int .i64 x.left, .int .i64 x.right, .int .i64 x.at_]
theorem pcC_len (x : Pc) : (pcC x).length = 4 := rfl
theorem one_pc (x : Pc) : ∀ u ∈ pcC x, u.oneCell' = true := by
  intro u hu
  simp [pcC] at hu
  rcases hu with rfl | rfl | rfl | rfl <;> rfl
def cmpV : Value := .func (.func 19) #[] #[]
def cmp3 (a b : Int) : Int := if a < b then -1 else if b < a then 1 else 0
theorem cmp3_neg (a b : Int) : cmp3 a b < 0 ↔ a < b := by unfold cmp3; split <;> (try split) <;> omega

theorem nan_fn {h : Heap} (a : Int) : FnS Try.prog 33 [.int .i64 a] h fun u h' => u = .bool false ∧ h' = h := by
  refine FnS.intro Try.func33 rfl rfl rfl ?_
  refine Sat.seq ?_
  refine Sat.region rfl ?_
  refine Sat.seq ?_
  refine Sat.region rfl ?_
  refine ⟨rfl, fun h => absurd rfl h, fun _ => ?_⟩
  refine Sat.ret ?_
  exact ⟨rfl, rfl⟩

theorem compare_fn {h : Heap} (a b : Int) : FnS Try.prog 20 [.int .i64 a, .int .i64 b] h fun u h' => u = .int .i64 (cmp3 a b) ∧ h' = h := by
  refine FnS.intro Try.func20 rfl rfl rfl ?_
  refine Sat.seq ?_
  refine Sat.region rfl ?_
  refine Sat.seq ?_
  refine Sat.region rfl ?_
  refine (nan_fn a).mono ?_
  rintro u h1 ⟨rfl, rfl⟩
  refine Sat.seq ?_
  refine Sat.region rfl ?_
  refine (nan_fn b).mono ?_
  rintro u h2 ⟨rfl, rfl⟩
  refine Sat.seq ?_
  refine Sat.seq ?_
  refine Sat.region rfl ?_
  refine Sat.cond ?_
  refine Sat.skip ?_
  refine Sat.seq ?_
  refine Sat.seq ?_
  refine Sat.region rfl ?_
  refine Sat.cond ?_
  refine Sat.skip ?_
  refine Sat.seq ?_
  refine Sat.seq ?_
  refine Sat.region rfl ?_
  refine ⟨rfl, fun h1 => ?_, fun h1 => ?_⟩
  · refine Sat.cond ?_
    refine Sat.seq ?_
    refine Sat.region rfl ?_
    refine Sat.ret ?_
    exact ⟨by unfold cmp3; rw [if_pos h1], rfl⟩
  · refine Sat.cond ?_
    refine Sat.skip ?_
    refine Sat.seq ?_
    refine Sat.seq ?_
    refine Sat.region rfl ?_
    refine ⟨rfl, fun h2 => ?_, fun h2 => ?_⟩
    · refine Sat.cond ?_
      refine Sat.seq ?_
      refine Sat.region rfl ?_
      refine Sat.ret ?_
      exact ⟨by unfold cmp3; rw [if_neg (by omega), if_pos (by omega)], rfl⟩
    · refine Sat.cond ?_
      refine Sat.skip ?_
      refine Sat.seq ?_
      refine Sat.region rfl ?_
      refine Sat.ret ?_
      exact ⟨by unfold cmp3; rw [if_neg (by omega), if_neg (by omega)], rfl⟩

theorem cmp_fn {h : Heap} (x y : Pc) : FnS Try.prog 19 [.agg (pcC x).toArray, .agg (pcC y).toArray] h fun u h' => u = .int .i64 (cmp3 x.at_ y.at_) ∧ Ext h h' := by
  refine FnS.intro Try.func19 rfl rfl rfl ?_
  refine Sat.seq ?_
  refine Sat.region rfl ?_
  obtain ⟨hA, eA⟩ : ∃ hA, hA = h.push (.cells (pcC x).toArray 49) := ⟨_, rfl⟩
  have xA : Ext h hA := by rw [eA]; exact Ext.push h _
  have bA : Blk hA h.size 49 (pcC x).toArray := by rw [eA]; exact Blk.new h _ _
  obtain ⟨hB, eB⟩ : ∃ hB, hB = hA.push (.cells (pcC y).toArray 49) := ⟨_, rfl⟩
  have xB : Ext hA hB := by rw [eB]; exact Ext.push hA _
  have bB : Blk hB hA.size 49 (pcC y).toArray := by rw [eB]; exact Blk.new hA _ _
  have bA2 := bA.ext xB
  refine Sat.at (h' := hB) (by rw [eB, eA]; rfl) ?_
  have e1 : (h.push (.cells (Value.agg (pcC x).toArray).cells 49)).size = hA.size := by rw [eA]; rfl
  rw [e1]
  refine Sat.seq ?_
  refine Sat.region rfl ?_
  refine ⟨by decide, .int .i64 x.at_, bA2.cell 3, by decide, .int .i64 y.at_, bB.cell 3, ?_⟩
  refine (compare_fn x.at_ y.at_).mono ?_
  rintro u h2 ⟨rfl, rfl⟩
  refine Sat.ret ?_
  exact ⟨rfl, xA.trans xB⟩

theorem i46 : slInfo Try.prog 46 = some (49, 4, .agg #[.int .i64 0, .int .i64 0, .int .i64 0, .int .i64 0], 32) := by kernel_rfl

/-- The slice that is sorted: block g, n places; from h0 only it has changed. -/
structure SS (h0 : Heap) (g c : Nat) (l : List Pc) (h : Heap) : Prop where
  own : Own h g 49 4 (.slice (some ⟨g, 0, none⟩) l.length c) l.length (l.flatMap pcC)
  chg : Chg (fun k => k = g) h0 h
  lt : g < h0.size
  few : l.length ≤ 1000000
variable {h0 h h' : Heap} {g c : Nat} {l : List Pc}
theorem SS.row (hs : SS h0 g c l h) {k : Nat} (hk : k < l.length) : Row h ((⟨g, 0, none⟩ : Addr).add (k * 4)) (pcC (at_ l k)) := by
  obtain ⟨g', c', e, _, _, hrow, _⟩ := hs.own.ptr (by omega)
  injection e with e
  injection e with e
  injection e with e
  subst e
  exact hrow.elem pcC_len (at_get hk)
theorem SS.blk (hs : SS h0 g c l h) {k : Nat} (hk : k < l.length) : ((⟨g, 0, none⟩ : Addr).add (k * 4)).block < h.size := by
  rw [add_block]; exact Nat.lt_of_lt_of_le hs.lt hs.chg.1
theorem SS.ext (hs : SS h0 g c l h) (hx : Ext h h') : SS h0 g c l h' := ⟨hs.own.ext hx, hs.chg.trans (hx.chg _), hs.lt, hs.few⟩
theorem SS.swap (hs : SS h0 g c l h) {i k : Nat} (hi : i < l.length) (hk : k < l.length) :
    SS h0 g c (swp l i k) (setRow (setRow h ((⟨g, 0, none⟩ : Addr).add (i * 4)) (pcC (at_ l k)) 0) ((⟨g, 0, none⟩ : Addr).add (k * 4)) (pcC (at_ l i)) 0) := by
  have o1 := hs.own.put pcC_len rfl hi (at_ l k)
  have o2 := o1.put pcC_len (by simp) hk (at_ l i)
  have s1 := setRow_chg ((⟨g, 0, none⟩ : Addr).add (i * 4)) (pcC (at_ l k)) 0 h
  have s2 := setRow_chg ((⟨g, 0, none⟩ : Addr).add (k * 4)) (pcC (at_ l i)) 0 (setRow h ((⟨g, 0, none⟩ : Addr).add (i * 4)) (pcC (at_ l k)) 0)
  rw [add_block] at s1 s2
  refine ⟨?_, hs.chg.trans (s1.trans s2), hs.lt, by rw [swp_length]; exact hs.few⟩
  rw [swp_length]
  exact o2
theorem SS.cells (hs : SS h0 g c l h) {k : Nat} (hk : k < l.length) : ∀ j, j < 4 → (∃ u, cellH h (((⟨g, 0, none⟩ : Addr).add (k * 4)).add j) = some u) ∧ frozenH h (((⟨g, 0, none⟩ : Addr).add (k * 4)).add j) = false := hs.own.cells pcC_len rfl hk
theorem SS.cells2 (hs : SS h0 g c l h) {i k : Nat} (hi : i < l.length) (hk : k < l.length) (x : Pc) :
    ∀ j, j < 4 → (∃ u, cellH (setRow h ((⟨g, 0, none⟩ : Addr).add (i * 4)) (pcC x) 0) (((⟨g, 0, none⟩ : Addr).add (k * 4)).add j) = some u) ∧ frozenH (setRow h ((⟨g, 0, none⟩ : Addr).add (i * 4)) (pcC x) 0) (((⟨g, 0, none⟩ : Addr).add (k * 4)).add j) = false :=
  (hs.own.put pcC_len rfl hi x).cells pcC_len (by simp) hk
theorem SS.rebase (hs : SS h0 g c l h) : SS h g c l h := ⟨hs.own, Chg.refl _ _, Nat.lt_of_lt_of_le hs.lt hs.chg.1, hs.few⟩
theorem SS.from (hs : SS h0 g c l h) {l' : List Pc} (hs' : SS h g c l' h') : SS h0 g c l' h' := ⟨hs'.own, hs.chg.trans hs'.chg, hs.lt, hs'.few⟩
def keyP (x : Pc) : Int := x.at_
end Go.Proofs.Ytobjkcmiicflmaa
