/- damage.Spans of two pages. -/
import Derived.Test.YtobjkcmiicflmaaS1
set_option maxRecDepth 100000
set_option linter.unusedVariables false
namespace Go.Proofs.Ytobjkcmiicflmaa
open Go Go.V

def lnAt (ls : List Ln) (i : Nat) : Ln := (ls[i]?).getD ⟨[], 0⟩
def rowsAt (whole : Bool) (la lb : List Ln) (cb i : Nat) : List Sp := if whole = true then [⟨i, 0, cb⟩] else rowS i (lnAt la i) (lnAt lb i)
def spansS (whole : Bool) (la lb : List Ln) (cb n : Nat) : List Sp := (List.range n).flatMap (rowsAt whole la lb cb)
theorem lineAt_lnAt (zs : List (Value × Ln)) (i : Nat) (h : i < zs.length) : lineAt zs (i : Int) = lnAt (zs.map (·.2)) i := by
  unfold lineAt lnAt
  rw [if_pos (by omega), Int.toNat_natCast, List.getElem?_map]
theorem spansS_succ (whole : Bool) (la lb : List Ln) (cb n : Nat) : spansS whole la lb cb (n + 1) = spansS whole la lb cb n ++ rowsAt whole la lb cb n := by
  unfold spansS
  rw [List.range_succ, List.flatMap_append]
  simp
theorem rowS_length {at_ : Int} {a b : Ln} : (rowS at_ a b).length ≤ b.cells.length + 1 := by
  unfold rowS
  split
  · simp
  · have := rowUpto_length at_ a.cells b.cells b.cells.length; omega

theorem spans_fn {h : Heap} {ba bb ga gb ca cb : Nat} {va vb : Value} {za zb : List (Value × Ln)} (pa : PgAt h ba ga va za ca) (pb : PgAt h bb gb vb zb cb) {whole : Bool} (hw : whole = decide (za.length ≠ zb.length ∨ ca ≠ cb)) :
    FnS Try.prog 13 [.pointer (some ⟨ga, 0, none⟩), .pointer (some ⟨gb, 0, none⟩)] h fun r h' => Ext h h' ∧ Own h' h.size 35 3 r (spansS whole (za.map (·.2)) (zb.map (·.2)) cb zb.length).length ((spansS whole (za.map (·.2)) (zb.map (·.2)) cb zb.length).flatMap spC) := by
  have hra := pa.rows
  have hrb := pb.rows
  have hca := pa.cols
  have hcb := pb.cols
  have hlb : ∀ i, i < zb.length → (lnAt (zb.map (·.2)) i).cells.length = cb := fun i hi => by
    unfold lnAt
    rw [List.getElem?_map, List.getElem?_eq_getElem hi]
    exact (pb.cells _ (List.getElem_mem hi)).2
  have hla : ∀ i, i < za.length → (lnAt (za.map (·.2)) i).cells.length = ca := fun i hi => by
    unfold lnAt
    rw [List.getElem?_map, List.getElem?_eq_getElem hi]
    exact (pa.cells _ (List.getElem_mem hi)).2
  have hone : ∀ i, i < zb.length → (rowsAt whole (za.map (·.2)) (zb.map (·.2)) cb i).length ≤ 501 := fun i hi => by
    unfold rowsAt
    split
    · simp
    · have := rowS_length (at_ := i) (a := lnAt (za.map (·.2)) i) (b := lnAt (zb.map (·.2)) i)
      have := hlb i hi
      omega
  have hlen : ∀ n, n ≤ zb.length → (spansS whole (za.map (·.2)) (zb.map (·.2)) cb n).length ≤ n * 501 := fun n => by
    induction n with
    | zero => intro _; simp [spansS]
    | succ n ih =>
      intro hn
      rw [spansS_succ, List.length_append]
      have := ih (by omega)
      have := hone n (by omega)
      omega
  refine FnS.goL [1] Try.func13 rfl rfl rfl rfl ?_
  refine St.cut (X := Unit) (fun _ => [(0, .pointer (some ⟨ga, 0, none⟩)), (1, .pointer (some ⟨gb, 0, none⟩)), (5, .bool whole)]) (fun _ h' => h' = h) ?_ ?_
  · refine (rows_fn pa).mono ?_
    rintro u h1 ⟨rfl, rfl⟩
    refine (rows_fn pb).mono ?_
    rintro u h2 ⟨rfl, rfl⟩
    refine ⟨rfl, fun h3 => ?_, fun h3 => ?_⟩
    · exact ⟨(), ⟨rfl, rfl, by rw [hw, decide_eq_true (.inl (by omega))]; rfl, trivial⟩, rfl⟩
    · refine (cols_fn pa).mono ?_
      rintro u h4 ⟨rfl, rfl⟩
      refine (cols_fn pb).mono ?_
      rintro u h5 ⟨rfl, rfl⟩
      refine ⟨rfl, fun h6 => ?_, fun h6 => ?_⟩
      · exact ⟨(), ⟨rfl, rfl, by rw [hw, decide_eq_true (.inr (by omega))]; rfl, trivial⟩, rfl⟩
      · exact ⟨(), ⟨rfl, rfl, by rw [hw, decide_eq_false (by omega)]; rfl, trivial⟩, rfl⟩
  rintro _ h2 rfl
  refine St.cut (X := Value) (fun v6 => [(6, v6)]) (fun v6 h' => Ext h2 h' ∧ Own h' h2.size 35 3 v6 (spansS whole (za.map (·.2)) (zb.map (·.2)) cb zb.length).length ((spansS whole (za.map (·.2)) (zb.map (·.2)) cb zb.length).flatMap spC)) ?_ ?_
  · refine (rows_fn pb).mono ?_
    rintro u h3 ⟨rfl, rfl⟩
    refine St.loop (X := Nat × Value) (fun z => [(0, .pointer (some ⟨ga, 0, none⟩)), (1, .pointer (some ⟨gb, 0, none⟩)), (5, .bool whole), (6, z.2), (21, .int .i64 (zb.length : Int)), (22, .int .i64 (z.1 : Int))])
      (fun z h' => Ext h3 h' ∧ z.1 ≤ zb.length ∧ Own h' h3.size 35 3 z.2 (spansS whole (za.map (·.2)) (zb.map (·.2)) cb z.1).length ((spansS whole (za.map (·.2)) (zb.map (·.2)) cb z.1).flatMap spC)) (fun z => zb.length - z.1) (0, .slice none 0 0)
      ⟨rfl, rfl, rfl, rfl, rfl, rfl, trivial⟩ ⟨Ext.refl _, Nat.zero_le _, Own.nil _ _ _ _⟩ ?_
    rintro ⟨i, v6⟩ h4 ⟨x4, hi, o4⟩
    simp only at x4 hi o4 ⊢
    refine ⟨rfl, fun h5 => ?_, fun h5 => ?_⟩
    rotate_left
    · have : i = zb.length := by omega
      subst this
      exact ⟨v6, ⟨rfl, trivial⟩, x4, o4⟩
    have hil : i < zb.length := by omega
    have hln := hlen i hi
    have hon := hone i hil
    have pa4 := pa.ext x4
    have pb4 := pb.ext x4
    refine St.cut (X := Value) (fun v6 => [(0, .pointer (some ⟨ga, 0, none⟩)), (1, .pointer (some ⟨gb, 0, none⟩)), (5, .bool whole), (6, v6), (21, .int .i64 (zb.length : Int)), (22, .int .i64 (i : Int))])
      (fun v6 h' => Ext h3 h' ∧ Own h' h3.size 35 3 v6 (spansS whole (za.map (·.2)) (zb.map (·.2)) cb (i + 1)).length ((spansS whole (za.map (·.2)) (zb.map (·.2)) cb (i + 1)).flatMap spC)) ?_ ?_
    rotate_left
    · rintro v6' h5 ⟨x5, o5⟩
      refine ⟨rfl, ((i + 1 : Nat) : Int), by rw [wrap_i64 (by omega) (by omega)]; omega, ?_⟩
      exact ⟨(i + 1, v6'), ⟨rfl, rfl, rfl, rfl, rfl, rfl, trivial⟩, ⟨x5, hil, o5⟩, by simp only; omega⟩
    rw [spansS_succ]
    generalize spansS whole (za.map (·.2)) (zb.map (·.2)) cb i = out at *
    have hrow : ∀ w : Bool, whole = w → rowsAt whole (za.map (·.2)) (zb.map (·.2)) cb i = if w = true then [⟨i, 0, cb⟩] else rowS i (lnAt (za.map (·.2)) i) (lnAt (zb.map (·.2)) i) := fun w e => by subst e; rfl
    cases hwv : whole with
    | true =>
      have e := hrow true hwv
      rw [hwv] at e
      rw [e]
      simp only [if_true]
      refine (cols_fn pb4).mono ?_
      rintro u h5 ⟨rfl, rfl⟩
      refine build_strct rfl rfl rfl (cells := (spC ⟨i, 0, cb⟩).toArray) (by kernel_rfl) ?_
      refine one_lit i27 (x := .agg (spC ⟨i, 0, cb⟩).toArray) rfl fun g6 h6 n6 => ?_
      refine append_to i27 (o4.ext n6.ext) (news := spC ⟨i, 0, cb⟩) rfl (.inr ⟨_, rfl, n6.row⟩) (one_sp _) (by omega) (by have := x4.1; have := n6.ext.1; omega) ?_
      intro v' h' o' c' _
      refine ⟨v', ⟨rfl, rfl, rfl, rfl, rfl, rfl, trivial⟩, (x4.trans n6.ext).then_new c' fun k hk => (o4.base_le k hk).1, ?_⟩
      simpa using o'
    | false =>
      have e := hrow false hwv
      rw [hwv] at e
      rw [e]
      simp only [Bool.false_eq_true, if_false]
      rw [hwv] at hw
      have hsame : za.length = zb.length ∧ ca = cb := by
        have := of_decide_eq_false hw.symm
        omega
      refine (line_fn pa4 (i : Int)).mono ?_
      rintro u h5 ⟨x5, l5⟩
      refine (line_fn (pb4.ext x5) (i : Int)).mono ?_
      rintro u2 h6 ⟨x6, l6⟩
      rw [lineAt_lnAt za i (by omega)] at l5
      rw [lineAt_lnAt zb i hil] at l6
      refine (row_fn (l5.ln.ext x6) l6.ln (by rw [hla i (by omega)]; omega) (by rw [hlb i hil]; omega)).mono ?_
      rintro r h7 ⟨x7, o7⟩
      have x47 := x5.trans (x6.trans x7)
      have hr7 : (rowS i (lnAt (za.map (·.2)) i) (lnAt (zb.map (·.2)) i)).length ≤ 501 := by rw [← show rowsAt false (za.map (·.2)) (zb.map (·.2)) cb i = rowS i (lnAt (za.map (·.2)) i) (lnAt (zb.map (·.2)) i) from rfl, ← hwv]; exact hon
      generalize rowS i (lnAt (za.map (·.2)) i) (lnAt (zb.map (·.2)) i) = rs at o7 hr7 ⊢
      obtain ⟨A7, c7, rfl, hc7⟩ := o7.slice
      have hsrc : rs.length = 0 ∨ ∃ p, A7 = some p ∧ Row h7 p (rs.flatMap spC) := by
        by_cases h0 : rs.length = 0
        · exact .inl h0
        · obtain ⟨g, c', e', _, _, hrow', _⟩ := o7.ptr (by omega)
          injection e' with e'
          exact .inr ⟨_, e', hrow'⟩
      have h1s : ∀ u ∈ rs.flatMap spC, u.oneCell' = true := fun u hu => by obtain ⟨x, _, hx⟩ := List.mem_flatMap.1 hu; exact one_sp x u hx
      have hb1 : (out.length + rs.length) * 24 ≤ 140737488355328 := by omega
      have hb2 : h3.size ≤ h7.size := Nat.le_trans x4.1 x47.1
      have o47 := o4.ext x47
      refine append_to i27 o47 (flat_length spC_len rs) hsrc h1s hb1 hb2 ?_
      intro v' h' o' c' _
      refine ⟨v', ⟨rfl, rfl, rfl, rfl, rfl, rfl, trivial⟩, (x4.trans x47).then_new c' fun k hk => (o4.base_le k hk).1, ?_⟩
      rw [List.length_append, List.flatMap_append]
      exact o'
  rintro v6 h3 ⟨x3, o3⟩
  exact ⟨x3, o3⟩
end Go.Proofs.Ytobjkcmiicflmaa
