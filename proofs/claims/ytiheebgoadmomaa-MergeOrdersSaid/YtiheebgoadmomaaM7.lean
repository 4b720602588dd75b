/- few. -/
import Derived.Test.YtiheebgoadmomaaM6
set_option maxRecDepth 100000
set_option linter.unusedVariables false
namespace Go.Proofs.Ytiheebgoadmomaa
open Go Go.V Go.V.Heaps

theorem bytes_cut {h : Heap} {A : Option Addr} {n c : Nat} {bs : List UInt8} (hb : BytesAt h (.slice A n c) bs) {k : Nat} (hk : k ≤ n) : BytesAt h (.slice A k c) (bs.take k) := by
  obtain ⟨A', c', e, hc, hr⟩ := hb
  injection e with e1 e2 e3
  subst e1; subst e2; subst e3
  have hl : (bs.take k).length = k := by rw [List.length_take]; omega
  refine ⟨A, c, by rw [hl], by omega, ?_⟩
  rcases hr with rfl | ⟨p, hp, hrow⟩
  · exact .inl (by simp)
  · refine .inr ⟨p, hp, ?_⟩
    have := hrow.take k
    unfold bytesV at this ⊢
    rw [← List.map_take] at this
    exact this
theorem total_le {α : Type} {k : Nat} : ∀ {ls : List (List α)}, (∀ l ∈ ls, l.length ≤ k) → total ls ≤ ls.length * k
  | [], _ => by simp [total]
  | a :: r, h => by
    have e : total (a :: r) = a.length + total r := by simp [total]
    have h1 := h a (List.mem_cons_self ..)
    have h2 := total_le (ls := r) fun l hl => h l (List.mem_cons_of_mem _ hl)
    rw [e, List.length_cons, Nat.succ_mul]
    omega

theorem few_fn {h : Heap} {v : Value} {ls : List (List It)} (hs : SrcsV h v ls) :
    FnS Try.prog 6 [v] h fun u h' => Ext h h' ∧ ∃ ls', SrcsV h' u ls' ∧ ls'.length ≤ 8 ∧ (∀ l ∈ ls', l.length ≤ 12) ∧ ∀ l ∈ ls', ∀ x ∈ l, x.data.length ≤ 300 := by
  obtain ⟨A, c, rfl, hlc, hsrc⟩ := hs
  refine FnS.intro Try.func6 rfl rfl rfl ?_
  refine Sat.seq ?_
  refine Sat.region rfl ?_
  refine Sat.seq ?_
  refine Sat.region rfl ?_
  refine Sat.cut (X := List (Value × List (It × Value)) × Value) (fun x => [(3, x.2)])
    (fun x h' => Ext h h' ∧ x.1.length ≤ 8 ∧ Own h' h.size 25 1 x.2 x.1.length (x.1.map (·.1)) ∧
      (∀ o ∈ x.1, o.2.length ≤ 12 ∧ Own h' h.size 30 9 o.1 o.2.length (o.2.flatMap encI) ∧ ∀ y ∈ o.2, BytesAt h y.2 y.1.data ∧ y.1.data.length ≤ 300)) ?_ ?_
  · refine Sat.seq ?_
    refine Sat.region rfl ?_
    refine Sat.block ?_
    refine Sat.loop (X := Nat × List (Value × List (It × Value)) × Value) (fun x => [(0, .slice A ls.length c), (3, x.2.2), (4, .int .i64 (x.1 : Int))])
      (fun x h' => Ext h h' ∧ x.1 ≤ 8 ∧ x.2.1.length = x.1 ∧ Own h' h.size 25 1 x.2.2 x.2.1.length (x.2.1.map (·.1)) ∧
        (∀ o ∈ x.2.1, o.2.length ≤ 12 ∧ Own h' h.size 30 9 o.1 o.2.length (o.2.flatMap encI) ∧ ∀ y ∈ o.2, BytesAt h y.2 y.1.data ∧ y.1.data.length ≤ 300)) (fun x => 8 - x.1) (0, [], .slice none 0 0)
      ⟨rfl, rfl, rfl, trivial⟩ ⟨Ext.refl h, Nat.zero_le _, rfl, Own.nil _ _ _ _, fun o ho => (by cases ho)⟩ ?_
    rintro ⟨i, vals, v3⟩ hR ⟨xR, hi, hvl, o3, hvals⟩
    simp only at xR hi hvl o3 hvals ⊢
    refine Sat.seq ?_
    refine Sat.seq ?_
    refine Sat.region rfl ?_
    refine ⟨rfl, fun h1 => ?_, fun h1 => ?_⟩
    rotate_left
    · refine Sat.cond ?_
      refine Sat.exit ?_
      exact ⟨(vals, v3), ⟨rfl, trivial⟩, xR, by simp only; omega, o3, hvals⟩
    refine ⟨rfl, fun h2 => ?_, fun h2 => ?_⟩
    rotate_left
    · refine Sat.cond ?_
      refine Sat.exit ?_
      exact ⟨(vals, v3), ⟨rfl, trivial⟩, xR, by simp only; omega, o3, hvals⟩
    have hil : i < ls.length := by omega
    obtain ⟨p, rfl, hp⟩ : ∃ p, A = some p ∧ ∀ (i : Nat) l, ls[i]? = some l → ∃ vi, cellH h (p.add (i * 1)) = some vi ∧ ItemsV h vi l := by
      rcases hsrc with h0 | h0
      · subst h0; simp at hil
      · exact h0
    have hli : ls[i]? = some ls[i] := List.getElem?_eq_getElem hil
    obtain ⟨vi, hvi, B, cc, rfl, hcc, hit⟩ := hp i _ hli
    generalize hle : ls[i] = l at *
    refine Sat.cond ?_
    refine Sat.skip ?_
    refine Sat.cut (X := List (Value × List (It × Value)) × Value) (fun x => [(0, .slice (some p) ls.length c), (3, x.2), (4, .int .i64 (i : Int))])
      (fun x h' => Ext h h' ∧ x.1.length = i + 1 ∧ Own h' h.size 25 1 x.2 x.1.length (x.1.map (·.1)) ∧
        (∀ o ∈ x.1, o.2.length ≤ 12 ∧ Own h' h.size 30 9 o.1 o.2.length (o.2.flatMap encI) ∧ ∀ y ∈ o.2, BytesAt h y.2 y.1.data ∧ y.1.data.length ≤ 300)) ?_ ?_
    rotate_left
    · rintro ⟨vals', v3'⟩ h2 ⟨x2, hv2, o2, hvs2⟩
      refine Sat.region rfl ?_
      refine ⟨rfl, ((i + 1 : Nat) : Int), by rw [wrap_i64 (by omega) (by omega)]; omega, ?_⟩
      exact ⟨(i + 1, vals', v3'), ⟨rfl, rfl, rfl, trivial⟩, ⟨x2, by simp only; omega, hv2, o2, hvs2⟩, by simp only; omega⟩
    refine Sat.block ?_
    refine Sat.seq ?_
    refine Sat.region rfl ?_
    refine Sat.cut (X := List (It × Value) × Value) (fun x => [(0, .slice (some p) ls.length c), (3, v3), (4, .int .i64 (i : Int)), (5, x.2)])
      (fun x h' => Ext hR h' ∧ x.1.length ≤ 12 ∧ Own h' hR.size 30 9 x.2 x.1.length (x.1.flatMap encI) ∧ (∀ y ∈ x.1, BytesAt h y.2 y.1.data ∧ y.1.data.length ≤ 300)) ?_ ?_
    rotate_left
    · rintro ⟨ys, v6⟩ h1 ⟨x1, h12, o6, hys⟩
      simp only at x1 h12 o6 hys ⊢
      refine Sat.region rfl ?_
      obtain ⟨B6, c6, rfl, _⟩ := o6.slice
      refine lit_one i22 (x := .slice B6 ys.length c6) rfl ?_
      obtain ⟨hD, eD⟩ : ∃ hD, hD = h1.push (.cells #[.slice B6 ys.length c6] 25) := ⟨_, rfl⟩
      have xD : Ext h1 hD := by rw [eD]; exact Ext.push h1 _
      have bD : Blk hD h1.size 25 #[.slice B6 ys.length c6] := by rw [eD]; exact Blk.new h1 _ _
      rw [show h1.push (.cells (Value.slice B6 ys.length c6).cells 25) = hD from eD.symm]
      have xRD := x1.trans xD
      have o3D := o3.ext xRD
      refine append_to i22 o3D (news := [.slice B6 ys.length c6]) rfl (.inr ⟨_, rfl, bD.row⟩) (by simp [Value.oneCell']) (by omega) (by have := xR.1; have := xRD.1; omega) ?_
      intro v3' hE oE cE _
      have hvD : ∀ o ∈ vals ++ [(.slice B6 ys.length c6, ys)], o.2.length ≤ 12 ∧ Own hD h.size 30 9 o.1 o.2.length (o.2.flatMap encI) ∧ ∀ y ∈ o.2, BytesAt h y.2 y.1.data ∧ y.1.data.length ≤ 300 := fun o ho => by
        rcases List.mem_append.1 ho with h4 | h4
        · obtain ⟨a1, a2, a3⟩ := hvals o h4
          exact ⟨a1, a2.ext xRD, a3⟩
        · rw [List.mem_singleton.1 h4]
          exact ⟨h12, (o6.ext xD).mono xR.1, hys⟩
      refine ⟨(vals ++ [(.slice B6 ys.length c6, ys)], v3'), ⟨rfl, rfl, rfl, trivial⟩, ?_, ?_, ?_, ?_⟩
      · exact (xR.trans xRD).then_new cE fun k hk => (o3D.base_le k hk).1
      · simp [hvl]
      · simp only [List.length_append, List.length_singleton]
        simpa using oE
      · exact fun o ho => ⟨(hvD o ho).1, (hvD o ho).2.1.chg cE ((hvD o ho).2.1.apart o3D (by decide)), (hvD o ho).2.2⟩
    refine Sat.seq ?_
    refine Sat.region rfl ?_
    refine Sat.block ?_
    refine Sat.loop (X := Nat × List (It × Value) × Value) (fun x => [(0, .slice (some p) ls.length c), (3, v3), (4, .int .i64 (i : Int)), (5, x.2.2), (6, .int .i64 (x.1 : Int))])
      (fun x h' => Ext hR h' ∧ x.1 ≤ 12 ∧ x.2.1.length = x.1 ∧ Own h' hR.size 30 9 x.2.2 x.2.1.length (x.2.1.flatMap encI) ∧ (∀ y ∈ x.2.1, BytesAt h y.2 y.1.data ∧ y.1.data.length ≤ 300)) (fun x => 12 - x.1) (0, [], .slice none 0 0)
      ⟨rfl, rfl, rfl, rfl, rfl, trivial⟩ ⟨Ext.refl _, Nat.zero_le _, rfl, Own.nil _ _ _ _, fun o ho => (by cases ho)⟩ ?_
    rintro ⟨j, ys, v6⟩ h1 ⟨x1, hj, hyl, o6, hys⟩
    simp only at x1 hj hyl o6 hys ⊢
    have hxh1 := xR.trans x1
    refine Sat.seq ?_
    refine Sat.seq ?_
    refine Sat.region rfl ?_
    refine ⟨p, i, rfl, rfl, hil, _, hxh1.cell hvi, ?_⟩
    refine ⟨rfl, fun h3 => ?_, fun h3 => ?_⟩
    rotate_left
    · refine Sat.cond ?_
      refine Sat.exit ?_
      exact ⟨(ys, v6), ⟨rfl, rfl, rfl, rfl, trivial⟩, x1, by simp only; omega, o6, hys⟩
    refine ⟨rfl, fun h4 => ?_, fun h4 => ?_⟩
    rotate_left
    · refine Sat.cond ?_
      refine Sat.exit ?_
      exact ⟨(ys, v6), ⟨rfl, rfl, rfl, rfl, trivial⟩, x1, by simp only; omega, o6, hys⟩
    refine Sat.cond ?_
    refine Sat.skip ?_
    have hjl : j < l.length := by omega
    obtain ⟨p2, rfl, hp2⟩ : ∃ p2, B = some p2 ∧ ItemsAt h p2 l := by
      rcases hit with h0 | h0
      · subst h0; simp at hjl
      · exact h0
    have hlj : l[j]? = some l[j] := List.getElem?_eq_getElem hjl
    obtain ⟨A', c', hrow, hbyt⟩ := hp2 j _ hlj
    generalize hxe : l[j] = x at *
    refine Sat.cut (X := (It × Value) × Value) (fun x => [(0, .slice (some p) ls.length c), (3, v3), (4, .int .i64 (i : Int)), (5, x.2), (6, .int .i64 (j : Int))])
      (fun x h' => Ext hR h' ∧ Own h' hR.size 30 9 x.2 (j + 1) ((ys ++ [x.1]).flatMap encI) ∧ (∀ y ∈ ys ++ [x.1], BytesAt h y.2 y.1.data ∧ y.1.data.length ≤ 300)) ?_ ?_
    rotate_left
    · rintro ⟨y, v6'⟩ h2 ⟨x2, o2, hy2⟩
      refine Sat.region rfl ?_
      refine ⟨rfl, ((j + 1 : Nat) : Int), by rw [wrap_i64 (by omega) (by omega)]; omega, ?_⟩
      refine ⟨(j + 1, ys ++ [y], v6'), ⟨rfl, rfl, rfl, rfl, rfl, trivial⟩, ⟨x2, by simp only; omega, by simp [hyl], ?_, hy2⟩, by simp only; omega⟩
      simp only
      rw [List.length_append, List.length_singleton, hyl]
      exact o2
    refine Sat.block ?_
    refine Sat.seq ?_
    refine Sat.region rfl ?_
    refine ⟨p, i, rfl, rfl, hil, _, hxh1.cell hvi, p2, j, rfl, rfl, hjl, _, rfl, hrow.ext hxh1, ?_⟩
    obtain ⟨hA, eA⟩ : ∃ hA, hA = h1.push (.cells #[.int .i64 0, .int .i64 0, .slice none 0 0, .int .i64 0, .int .u8 0, .bool false, .bool false, .int .i64 0, .int .i64 0] 30) := ⟨_, rfl⟩
    have xA : Ext h1 hA := by rw [eA]; exact Ext.push h1 _
    have bA : Blk hA h1.size 30 #[.int .i64 0, .int .i64 0, .slice none 0 0, .int .i64 0, .int .u8 0, .bool false, .bool false, .int .i64 0, .int .i64 0] := by rw [eA]; exact Blk.new h1 _ _
    refine ⟨rfl, one_it x rfl, (Blk.new h1 30 #[.int .i64 0, .int .i64 0, .slice none 0 0, .int .i64 0, .int .u8 0, .bool false, .bool false, .int .i64 0, .int .i64 0]).okAt (by decide), ?_⟩
    obtain ⟨hB, eB⟩ : ∃ hB, hB = setRow hA ⟨h1.size, 0, none⟩ (itC x (.slice A' x.data.length c')) 0 := ⟨_, rfl⟩
    have xB : Ext h1 hB := by rw [eB]; exact setRow_new xA (Nat.le_refl _) _ _
    have bB : Blk hB h1.size 30 (itC x (.slice A' x.data.length c')).toArray := by rw [eB]; exact bA.whole rfl
    refine Sat.at (h' := hB) (by rw [eB, eA]; rfl) ?_
    refine Sat.cut (X := It × Value) (fun _ => [(0, .slice (some p) ls.length c), (3, v3), (4, .int .i64 (i : Int)), (5, v6), (6, .int .i64 (j : Int)), (7, .pointer (some ⟨h1.size, 0, none⟩))])
      (fun y h' => Ext h1 h' ∧ Blk h' h1.size 30 (encI y).toArray ∧ BytesAt h y.2 y.1.data ∧ y.1.data.length ≤ 300) ?_ ?_
    · refine Sat.seq ?_
      refine Sat.region rfl ?_
      refine ⟨by decide, _, bB.cell 2, ?_⟩
      refine ⟨rfl, fun h5 => ?_, fun h5 => ?_⟩
      · refine Sat.cond ?_
        refine Sat.region rfl ?_
        have h300 : 300 ≤ x.data.length := by omega
        have hcap : x.data.length ≤ c' := by obtain ⟨_, _, e, hc, _⟩ := hbyt; injection e with _ _ e3; omega
        refine ⟨by decide, .slice A' x.data.length c', bB.cell 2, ?_⟩
        refine ⟨0, 300, c', rfl, rfl, rfl, (fun h => nomatch h), by omega, by omega, Nat.le_refl _, A', 300, c', cut0 _ _ _, rfl, rfl, ?_⟩
        refine ⟨by decide, rfl, rfl, ⟨_, bB.cell 2⟩, bB.free 2, ?_⟩
        have hl : (x.data.take 300).length = 300 := by rw [List.length_take]; omega
        exact ⟨({ x with data := x.data.take 300 }, .slice A' 300 c'), ⟨rfl, rfl, rfl, rfl, rfl, rfl, trivial⟩, setH_new xB (Nat.le_refl _) _ _, bB.set 2 _, bytes_cut hbyt h300, Nat.le_of_eq hl⟩
      · refine Sat.cond ?_
        refine Sat.skip ?_
        exact ⟨(x, .slice A' x.data.length c'), ⟨rfl, rfl, rfl, rfl, rfl, rfl, trivial⟩, xB, bB, hbyt, by simp only; omega⟩
    rintro ⟨y, dv⟩ hC ⟨xC, bC, hyb, hy3⟩
    simp only at xC bC hyb hy3 ⊢
    refine Sat.cut (X := It × Value) (fun _ => [(0, .slice (some p) ls.length c), (3, v3), (4, .int .i64 (i : Int)), (5, v6), (6, .int .i64 (j : Int)), (7, .pointer (some ⟨h1.size, 0, none⟩))])
      (fun y h' => Ext h1 h' ∧ Blk h' h1.size 30 (encI y).toArray ∧ BytesAt h y.2 y.1.data ∧ y.1.data.length ≤ 300) ?_ ?_
    · have no : ∃ y : It × Value, Sub [(0, .slice (some p) ls.length c), (3, v3), (4, .int .i64 (i : Int)), (5, v6), (6, .int .i64 (j : Int)), (7, .pointer (some ⟨h1.size, 0, none⟩))]
          [(0, .slice (some p) ls.length c), (3, v3), (4, .int .i64 (i : Int)), (5, v6), (6, .int .i64 (j : Int)), (7, .pointer (some ⟨h1.size, 0, none⟩))] ∧ Ext h1 hC ∧ Blk hC h1.size 30 (encI y).toArray ∧ BytesAt h y.2 y.1.data ∧ y.1.data.length ≤ 300 :=
        ⟨(y, dv), ⟨rfl, rfl, rfl, rfl, rfl, rfl, trivial⟩, xC, bC, hyb, hy3⟩
      have yes : Ext h1 (setH (setH hC ⟨h1.size, 7, none⟩ (.int .i64 7)) ⟨h1.size, 8, none⟩ (.int .i64 9)) ∧ Blk (setH (setH hC ⟨h1.size, 7, none⟩ (.int .i64 7)) ⟨h1.size, 8, none⟩ (.int .i64 9)) h1.size 30 (encI ({ y with rows := 7, cols := 9 }, dv)).toArray :=
        ⟨setH_new (setH_new xC (Nat.le_refl _) _ _) (Nat.le_refl _) _ _, (bC.set 7 (.int .i64 7)).set 8 (.int .i64 9)⟩
      refine Sat.seq ?_
      refine Sat.region rfl ?_
      refine ⟨by decide, .int .i64 y.rows, bC.cell 7, ?_⟩
      refine ⟨rfl, fun h5 => ?_, fun h5 => ?_⟩
      · refine ⟨by decide, .int .i64 y.rows, bC.cell 7, rfl, fun h6 => ?_, fun h6 => ?_⟩
        · refine Sat.cond ?_
          refine Sat.region rfl ?_
          refine ⟨by decide, rfl, rfl, ⟨_, bC.cell 7⟩, bC.free 7, ?_⟩
          refine ⟨by decide, rfl, rfl, ⟨_, (bC.set 7 (.int .i64 7)).cell 8⟩, (bC.set 7 (.int .i64 7)).free 8, ?_⟩
          exact ⟨({ y with rows := 7, cols := 9 }, dv), ⟨rfl, rfl, rfl, rfl, rfl, rfl, trivial⟩, yes.1, yes.2, hyb, hy3⟩
        · refine ⟨by decide, .int .i64 y.cols, bC.cell 8, rfl, fun h7 => ?_, fun h7 => ?_⟩
          · refine ⟨by decide, .int .i64 y.cols, bC.cell 8, rfl, fun h8 => ?_, fun h8 => ?_⟩
            · refine Sat.cond ?_
              refine Sat.region rfl ?_
              refine ⟨by decide, rfl, rfl, ⟨_, bC.cell 7⟩, bC.free 7, ?_⟩
              refine ⟨by decide, rfl, rfl, ⟨_, (bC.set 7 (.int .i64 7)).cell 8⟩, (bC.set 7 (.int .i64 7)).free 8, ?_⟩
              exact ⟨({ y with rows := 7, cols := 9 }, dv), ⟨rfl, rfl, rfl, rfl, rfl, rfl, trivial⟩, yes.1, yes.2, hyb, hy3⟩
            · refine Sat.cond ?_
              refine Sat.skip ?_
              exact ⟨(y, dv), ⟨rfl, rfl, rfl, rfl, rfl, rfl, trivial⟩, xC, bC, hyb, hy3⟩
          · refine Sat.cond ?_
            refine Sat.skip ?_
            exact ⟨(y, dv), ⟨rfl, rfl, rfl, rfl, rfl, rfl, trivial⟩, xC, bC, hyb, hy3⟩
      · refine ⟨by decide, .int .i64 y.cols, bC.cell 8, rfl, fun h7 => ?_, fun h7 => ?_⟩
        · refine ⟨by decide, .int .i64 y.cols, bC.cell 8, rfl, fun h8 => ?_, fun h8 => ?_⟩
          · refine Sat.cond ?_
            refine Sat.region rfl ?_
            refine ⟨by decide, rfl, rfl, ⟨_, bC.cell 7⟩, bC.free 7, ?_⟩
            refine ⟨by decide, rfl, rfl, ⟨_, (bC.set 7 (.int .i64 7)).cell 8⟩, (bC.set 7 (.int .i64 7)).free 8, ?_⟩
            exact ⟨({ y with rows := 7, cols := 9 }, dv), ⟨rfl, rfl, rfl, rfl, rfl, rfl, trivial⟩, yes.1, yes.2, hyb, hy3⟩
          · refine Sat.cond ?_
            refine Sat.skip ?_
            exact ⟨(y, dv), ⟨rfl, rfl, rfl, rfl, rfl, rfl, trivial⟩, xC, bC, hyb, hy3⟩
        · refine Sat.cond ?_
          refine Sat.skip ?_
          exact ⟨(y, dv), ⟨rfl, rfl, rfl, rfl, rfl, rfl, trivial⟩, xC, bC, hyb, hy3⟩
    clear hyb hy3 bC xC
    rintro ⟨y, dv⟩ hC ⟨xC, bC, hyb, hy3⟩
    simp only at xC bC hyb hy3 ⊢
    refine Sat.region rfl ?_
    refine ⟨_, rfl, bC.row, ?_⟩
    refine lit_one i25 (x := .agg (itC y dv).toArray) rfl ?_
    obtain ⟨hD, eD⟩ : ∃ hD, hD = hC.push (.cells (itC y dv).toArray 30) := ⟨_, rfl⟩
    have xD : Ext hC hD := by rw [eD]; exact Ext.push hC _
    have bD : Blk hD hC.size 30 (itC y dv).toArray := by rw [eD]; exact Blk.new hC _ _
    rw [show hC.push (.cells (Value.agg (itC y dv).toArray).cells 30) = hD from eD.symm]
    have x1D := xC.trans xD
    have o6D := o6.ext x1D
    have dv1 : dv.oneCell' = true := by obtain ⟨_, _, e, _⟩ := hyb; rw [e]; rfl
    refine append_to i25 o6D (news := itC y dv) rfl (.inr ⟨_, rfl, bD.row⟩) (one_it y dv1) (by omega) (by have := x1.1; have := x1D.1; omega) ?_
    intro v6' hE oE cE _
    refine ⟨((y, dv), v6'), ⟨rfl, rfl, rfl, rfl, rfl, trivial⟩, ?_, ?_, ?_⟩
    · exact (x1.trans x1D).then_new cE fun k hk => (o6D.base_le k hk).1
    · rw [List.flatMap_append]
      rw [hyl] at oE
      simpa [encI] using oE
    · intro z hz
      rcases List.mem_append.1 hz with h7 | h7
      · exact hys z h7
      · rw [List.mem_singleton.1 h7]; exact ⟨hyb, hy3⟩
  · rintro ⟨vals, v3⟩ h' ⟨x1, h8, o3, hvals⟩
    simp only at x1 h8 o3 hvals ⊢
    refine Sat.seq ?_
    refine Sat.region rfl ?_
    refine Sat.ret ?_
    refine ⟨x1, _, srcs_of o3 rfl fun o ho => ⟨(hvals o ho).2.1, fun y hy => (((hvals o ho).2.2 y hy).1).ext x1⟩, by simpa using h8, ?_, ?_⟩
    · intro l hl
      obtain ⟨o, ho, rfl⟩ := List.mem_map.1 hl
      simpa using (hvals o ho).1
    · intro l hl x hx
      obtain ⟨o, ho, rfl⟩ := List.mem_map.1 hl
      obtain ⟨y, hy, rfl⟩ := List.mem_map.1 hx
      exact ((hvals o ho).2.2 y hy).2
end Go.Proofs.Ytiheebgoadmomaa
