/- MergeRises. -/
import Derived.Test.YtiheebgoadmomaaM8
set_option maxRecDepth 100000
set_option linter.unusedVariables false
namespace Go.Proofs.Ytiheebgoadmomaa
open Go Go.V Go.V.Heaps

theorem rises_of {l : List It} (h : ∀ m x y, l[m]? = some x → l[m + 1]? = some y → x.at_ ≤ y.at_) : Rises It.at_ l := by
  have key : ∀ (d i : Nat) (x y : It), l[i]? = some x → l[i + d]? = some y → x.at_ ≤ y.at_ := by
    intro d
    induction d with
    | zero => intro i x y h1 h2; rw [Nat.add_zero, h1] at h2; injection h2 with h2; subst h2; exact Int.le_refl _
    | succ d ih =>
      intro i x y h1 h2
      have hlt : i + (d + 1) < l.length := (List.getElem?_eq_some_iff.1 h2).1
      have hz : l[i + d]? = some (l[i + d]'(by omega)) := List.getElem?_eq_getElem (by omega)
      exact Int.le_trans (ih i x _ h1 hz) (h (i + d) _ y hz h2)
  rw [Rises, List.pairwise_iff_getElem]
  intro i j hi hj hij
  refine key (j - i) i _ _ (List.getElem?_eq_getElem hi) ?_
  rw [show i + (j - i) = j by omega]
  exact List.getElem?_eq_getElem hj

theorem total_take {α : Type} {ls : List (List α)} {i : Nat} (hi : i < ls.length) : total (ls.take (i + 1)) = total (ls.take i) + ls[i].length := by
  rw [List.take_succ_eq_append_getElem hi]
  unfold total
  rw [List.map_append, List.sum_append]
  simp
theorem total_take_le {α : Type} {k : Nat} {ls : List (List α)} (h : ∀ l ∈ ls, l.length ≤ k) (i : Nat) : total (ls.take i) ≤ ls.length * k := by
  have := total_le (ls := ls.take i) (k := k) fun l hl => h l (List.mem_of_mem_take hl)
  exact Nat.le_trans this (Nat.mul_le_mul_right _ (by rw [List.length_take]; omega))

theorem rises_fn {h : Heap} {v : Value} {ls0 : List (List It)} (hs0 : SrcsV h v ls0) : FnS Try.prog 3 [v] h fun u h' => u = .bool true ∧ Ext h h' := by
  refine FnS.intro Try.func3 rfl rfl rfl ?_
  refine Sat.seq ?_
  refine Sat.region rfl ?_
  refine Sat.seq ?_
  refine Sat.seq ?_
  refine Sat.region rfl ?_
  refine awake_fn.mono ?_
  rintro u h1 ⟨rfl, x1⟩
  refine Sat.cond ?_
  refine Sat.skip ?_
  refine Sat.seq ?_
  refine Sat.region rfl ?_
  refine (few_fn (hs0.ext x1)).mono ?_
  rintro u h2 ⟨x2, ls, hs, hl8, hl12, hbig⟩
  obtain ⟨A, c, rfl, hlc, hsrc⟩ := id hs
  have htot : total ls ≤ 96 := by
    have := total_le hl12
    have := Nat.mul_le_mul_right 12 hl8
    omega
  -- the sources rise
  refine Sat.cut (X := Unit) (fun _ => [(0, .slice A ls.length c)]) (fun _ h' => h' = h2 ∧ ∀ l ∈ ls, Rises It.at_ l) ?_ ?_
  · refine Sat.seq ?_
    refine Sat.region rfl ?_
    refine Sat.block ?_
    refine Sat.loop (X := Nat) (fun i => [(0, .slice A ls.length c), (14, .int .i64 (ls.length : Int)), (15, .int .i64 (i : Int))]) (fun i h' => h' = h2 ∧ i ≤ ls.length ∧ ∀ k l, k < i → ls[k]? = some l → Rises It.at_ l) (fun i => ls.length - i) 0
      ⟨rfl, rfl, rfl, trivial⟩ ⟨rfl, Nat.zero_le _, fun k l hk => (by omega)⟩ ?_
    rintro i h' ⟨rfl, hi, hris⟩
    refine Sat.seq ?_
    refine Sat.region rfl ?_
    refine ⟨rfl, fun h1 => ?_, fun h1 => ?_⟩
    rotate_left
    · refine Sat.seq ?_
      refine Sat.cond ?_
      refine Sat.exit ?_
      refine ⟨(), ⟨rfl, trivial⟩, rfl, fun l hl => ?_⟩
      obtain ⟨k, hk⟩ := List.mem_iff_getElem?.1 hl
      have := (List.getElem?_eq_some_iff.1 hk).1
      exact hris k l (by omega) hk
    have hil : i < ls.length := by omega
    obtain ⟨p, rfl, hp⟩ : ∃ p, A = some p ∧ ∀ (i : Nat) l, ls[i]? = some l → ∃ vi, cellH h' (p.add (i * 1)) = some vi ∧ ItemsV h' vi l := by
      rcases hsrc with h0 | h0
      · subst h0; simp at hil
      · exact h0
    have hli : ls[i]? = some ls[i] := List.getElem?_eq_getElem hil
    obtain ⟨vi, hvi, B, cc, rfl, hcc, hit⟩ := hp i _ hli
    have hlm := hl12 _ (List.mem_of_getElem? hli)
    generalize hle : ls[i] = l at *
    refine Sat.seq ?_
    refine Sat.cond ?_
    refine Sat.skip ?_
    refine Sat.cut (X := Unit) (fun _ => [(0, .slice (some p) ls.length c), (14, .int .i64 (ls.length : Int)), (15, .int .i64 (i : Int))]) (fun _ h2 => h2 = h' ∧ Rises It.at_ l) ?_ ?_
    rotate_left
    · rintro _ h3 ⟨rfl, hrl⟩
      refine Sat.region rfl ?_
      refine ⟨rfl, ((i + 1 : Nat) : Int), by rw [wrap_i64 (by omega) (by omega)]; omega, ?_⟩
      refine ⟨i + 1, ⟨rfl, rfl, rfl, trivial⟩, ⟨rfl, hil, fun k l' hk hl' => ?_⟩, by omega⟩
      by_cases hki : k = i
      · subst hki
        rw [hli] at hl'
        injection hl' with hl'
        subst hl'
        exact hrl
      · exact hris k l' (by omega) hl'
    refine Sat.block ?_
    refine Sat.seq ?_
    refine Sat.region rfl ?_
    refine Sat.seq ?_
    refine Sat.region rfl ?_
    refine Sat.block ?_
    refine Sat.loop (X := Nat) (fun j => [(0, .slice (some p) ls.length c), (14, .int .i64 (ls.length : Int)), (15, .int .i64 (i : Int)), (3, .int .i64 (i : Int)), (4, .int .i64 ((j + 1 : Nat) : Int))])
      (fun j h3 => h3 = h' ∧ ∀ m x y, m < j → l[m]? = some x → l[m + 1]? = some y → x.at_ ≤ y.at_) (fun j => l.length - j) 0
      ⟨rfl, rfl, rfl, rfl, rfl, trivial⟩ ⟨rfl, fun m x y hm => (by omega)⟩ ?_
    rintro j h3 ⟨rfl, hj⟩
    refine Sat.seq ?_
    refine Sat.seq ?_
    refine Sat.region rfl ?_
    refine ⟨p, i, rfl, rfl, hil, _, hvi, rfl, fun h4 => ?_, fun h4 => ?_⟩
    rotate_left
    · refine Sat.cond ?_
      refine Sat.exit ?_
      refine ⟨(), ⟨rfl, rfl, rfl, trivial⟩, rfl, rises_of fun m x y hx hy => ?_⟩
      have := (List.getElem?_eq_some_iff.1 hy).1
      exact hj m x y (by omega) hx hy
    refine Sat.cond ?_
    refine Sat.skip ?_
    have hjl : j + 1 < l.length := by omega
    obtain ⟨p2, rfl, hp2⟩ : ∃ p2, B = some p2 ∧ ItemsAt h3 p2 l := by
      rcases hit with h0 | h0
      · subst h0; simp at hjl
      · exact h0
    have hy : l[j + 1]? = some l[j + 1] := List.getElem?_eq_getElem hjl
    have hx : l[j]? = some l[j] := List.getElem?_eq_getElem (by omega)
    have ay := (hp2 (j + 1) _ hy).at_
    have ax := (hp2 j _ hx).at_
    refine Sat.seq ?_
    refine Sat.block ?_
    refine Sat.seq ?_
    refine Sat.drawn .plain rfl (by kernel_rfl) ?_
    refine ⟨p, i, rfl, rfl, hil, _, hvi, p2, j + 1, rfl, rfl, hjl, by decide, _, ay, ?_⟩
    refine ⟨p, i, rfl, rfl, hil, _, hvi, rfl, (j : Int), by rw [wrap_i64 (by omega) (by omega)]; omega, p2, j, rfl, rfl, by omega, by decide, _, ax, rfl, fun h5 => ?_, fun h5 => ?_⟩
    · refine Sat.cond ?_
      refine Sat.seq ?_
      refine Sat.region rfl ?_
      refine Sat.ret ?_
      exact ⟨rfl, x1.trans x2⟩
    · refine Sat.cond ?_
      refine Sat.skip ?_
      refine Sat.region rfl ?_
      refine ⟨rfl, ((j + 1 + 1 : Nat) : Int), by rw [wrap_i64 (by omega) (by omega)]; omega, ?_⟩
      refine ⟨j + 1, ⟨rfl, rfl, rfl, rfl, rfl, trivial⟩, ⟨rfl, fun m x y hm hx' hy' => ?_⟩, by omega⟩
      by_cases hmj : m = j
      · subst hmj
        rw [hx] at hx'
        rw [hy] at hy'
        injection hx' with hx'
        injection hy' with hy'
        subst hx'; subst hy'
        omega
      · exact hj m x y (by omega) hx' hy'
  rintro _ h' ⟨rfl, hris⟩
  refine Sat.seq ?_
  refine Sat.region rfl ?_
  refine (own_fn hs (by omega) (by omega) (fun l hl x hx => Nat.le_trans (hbig l hl x hx) (by decide))).mono ?_
  rintro u h3 ⟨x3, hs3⟩
  refine (merge_fn hs3 (by omega) (by omega) (fun l hl x hx => Nat.le_trans (hbig l hl x hx) (by decide))).mono ?_
  rintro u h4 ⟨x4, outs, o4, _, hm⟩
  have hpw := Merges.rises It.at_ hm hris
  have hln := Merges.length It.at_ hm
  rw [List.length_map] at hln
  obtain ⟨B, c4, rfl, _⟩ := o4.slice
  refine Sat.seq ?_
  refine Sat.region rfl ?_
  refine Sat.cut (X := Unit) (fun _ => [(0, .slice A ls.length c), (5, .slice B outs.length c4), (6, .int .i64 0)]) (fun _ h5 => h5 = h4) ?_ ?_
  · refine Sat.seq ?_
    refine Sat.region rfl ?_
    refine Sat.block ?_
    refine Sat.loop (X := Nat) (fun i => [(0, .slice A ls.length c), (5, .slice B outs.length c4), (6, .int .i64 0), (50, .int .i64 (outs.length : Int)), (51, .int .i64 (i : Int))]) (fun i h5 => h5 = h4 ∧ i ≤ outs.length) (fun i => outs.length - i) 0
      ⟨rfl, rfl, rfl, rfl, rfl, trivial⟩ ⟨rfl, Nat.zero_le _⟩ ?_
    rintro i h5 ⟨rfl, hi⟩
    refine Sat.seq ?_
    refine Sat.region rfl ?_
    refine ⟨rfl, fun h1 => ?_, fun h1 => ?_⟩
    rotate_left
    · refine Sat.seq ?_
      refine Sat.cond ?_
      refine Sat.exit ?_
      exact ⟨(), ⟨rfl, rfl, rfl, trivial⟩, rfl⟩
    have hil : i < outs.length := by omega
    refine Sat.seq ?_
    refine Sat.cond ?_
    refine Sat.skip ?_
    refine Sat.cut (X := Unit) (fun _ => [(0, .slice A ls.length c), (5, .slice B outs.length c4), (6, .int .i64 0), (50, .int .i64 (outs.length : Int)), (51, .int .i64 (i : Int))]) (fun _ h2 => h2 = h5) ?_ ?_
    rotate_left
    · rintro _ h6 rfl
      refine Sat.region rfl ?_
      refine ⟨rfl, ((i + 1 : Nat) : Int), by rw [wrap_i64 (by omega) (by omega)]; omega, ?_⟩
      exact ⟨i + 1, ⟨rfl, rfl, rfl, rfl, rfl, trivial⟩, ⟨rfl, hil⟩, by omega⟩
    refine Sat.block ?_
    refine Sat.seq ?_
    refine Sat.region rfl ?_
    refine Sat.seq ?_
    refine Sat.drawn .plain rfl (by kernel_rfl) ?_
    refine ⟨rfl, fun h2 => ?_, fun h2 => ?_⟩
    rotate_left
    · refine Sat.cond ?_
      refine Sat.skip ?_
      exact ⟨(), ⟨rfl, rfl, rfl, rfl, rfl, trivial⟩, rfl⟩
    obtain ⟨k, rfl⟩ : ∃ k, i = k + 1 := ⟨i - 1, by omega⟩
    obtain ⟨g, c5, e5, _, _, hrow, _⟩ := o4.ptr (by omega)
    injection e5 with e5 _ _
    subst e5
    have hb : outs[k + 1]? = some outs[k + 1] := List.getElem?_eq_getElem hil
    have ha : outs[k]? = some (outs[k]'(by omega)) := List.getElem?_eq_getElem (by omega)
    have hle := List.pairwise_iff_getElem.1 hpw k (k + 1) (by simp; omega) (by simp; omega) (by omega)
    simp only [List.getElem_map] at hle
    have rb := hrow.elem plC_len hb
    have ra := hrow.elem plC_len ha
    generalize outs[k + 1] = b at *
    generalize outs[k]'(by omega) = a at *
    have cb0 := rb 0 (.int .i64 b.1.at_) rfl
    have ca0 := ra 0 (.int .i64 a.1.at_) rfl
    have cb9 := rb 9 (.int .i64 (b.2.2 : Int)) rfl
    have ca9 := ra 9 (.int .i64 (a.2.2 : Int)) rfl
    refine ⟨⟨g, 0, none⟩, k + 1, rfl, rfl, hil, by decide, by decide, _, cb0, rfl, (k : Int), by rw [wrap_i64 (by omega) (by omega)]; omega, ⟨g, 0, none⟩, k, rfl, rfl, by omega, by decide, by decide, _, ca0, rfl, fun h3 => absurd h3 (by omega), fun h3 => ?_⟩
    refine ⟨⟨g, 0, none⟩, k + 1, rfl, rfl, hil, by decide, by decide, _, cb0, rfl, (k : Int), by rw [wrap_i64 (by omega) (by omega)]; omega, ⟨g, 0, none⟩, k, rfl, rfl, by omega, by decide, by decide, _, ca0, rfl, fun h4 => ?_, fun h4 => ?_⟩
    · refine ⟨⟨g, 0, none⟩, k + 1, rfl, rfl, hil, by decide, _, cb9, rfl, (k : Int), by rw [wrap_i64 (by omega) (by omega)]; omega, ⟨g, 0, none⟩, k, rfl, rfl, by omega, by decide, _, ca9, rfl, fun h5 => absurd h5 (by omega), fun h5 => ?_⟩
      refine Sat.cond ?_
      refine Sat.skip ?_
      exact ⟨(), ⟨rfl, rfl, rfl, rfl, rfl, trivial⟩, rfl⟩
    · refine Sat.cond ?_
      refine Sat.skip ?_
      exact ⟨(), ⟨rfl, rfl, rfl, rfl, rfl, trivial⟩, rfl⟩
  · rintro _ h5 rfl
    refine Sat.cut (X := Unit) (fun _ => [(5, .slice B outs.length c4), (6, .int .i64 (total ls : Int))]) (fun _ h6 => h6 = h5) ?_ ?_
    · refine Sat.seq ?_
      refine Sat.region rfl ?_
      refine Sat.block ?_
      refine Sat.loop (X := Nat) (fun i => [(0, .slice A ls.length c), (5, .slice B outs.length c4), (6, .int .i64 (total (ls.take i) : Int)), (104, .int .i64 (ls.length : Int)), (105, .int .i64 (i : Int))]) (fun i h6 => h6 = h5 ∧ i ≤ ls.length) (fun i => ls.length - i) 0
        ⟨rfl, rfl, rfl, rfl, rfl, trivial⟩ ⟨rfl, Nat.zero_le _⟩ ?_
      rintro i h6 ⟨rfl, hi⟩
      refine Sat.seq ?_
      refine Sat.region rfl ?_
      refine ⟨rfl, fun h1 => ?_, fun h1 => ?_⟩
      rotate_left
      · refine Sat.seq ?_
        refine Sat.cond ?_
        refine Sat.exit ?_
        have : i = ls.length := by omega
        subst this
        refine ⟨(), ⟨rfl, ?_, trivial⟩, rfl⟩
        rw [List.take_length]
        rfl
      have hil : i < ls.length := by omega
      obtain ⟨p, rfl, hp⟩ : ∃ p, A = some p ∧ ∀ (i : Nat) l, ls[i]? = some l → ∃ vi, cellH h' (p.add (i * 1)) = some vi ∧ ItemsV h' vi l := by
        rcases hsrc with h0 | h0
        · subst h0; simp at hil
        · exact h0
      have hli : ls[i]? = some ls[i] := List.getElem?_eq_getElem hil
      obtain ⟨vi, hvi, B', cc, rfl, hcc, hit⟩ := hp i _ hli
      have htt := total_take hil
      have htl := total_take_le hl12 i
      have hlm := hl12 _ (List.mem_of_getElem? hli)
      have h96 := Nat.mul_le_mul_right 12 hl8
      refine Sat.seq ?_
      refine Sat.cond ?_
      refine Sat.skip ?_
      refine Sat.seq ?_
      refine Sat.block ?_
      refine Sat.seq ?_
      refine Sat.region rfl ?_
      refine Sat.region rfl ?_
      refine ⟨p, i, rfl, rfl, hil, _, (x3.trans x4).cell hvi, rfl, (total (ls.take (i + 1)) : Int), by rw [wrap_i64 (by omega) (by omega)]; omega, ?_⟩
      refine Sat.region rfl ?_
      refine ⟨rfl, ((i + 1 : Nat) : Int), by rw [wrap_i64 (by omega) (by omega)]; omega, ?_⟩
      exact ⟨i + 1, ⟨rfl, rfl, rfl, rfl, rfl, trivial⟩, ⟨rfl, hil⟩, by omega⟩
    · rintro _ h6 rfl
      refine Sat.seq ?_
      refine Sat.region rfl ?_
      refine ⟨rfl, fun h1 => ?_, fun h1 => absurd (by rw [hln]) h1⟩
      refine Sat.ret ?_
      exact ⟨rfl, ((x1.trans x2).trans x3).trans x4⟩
end Go.Proofs.Ytiheebgoadmomaa
