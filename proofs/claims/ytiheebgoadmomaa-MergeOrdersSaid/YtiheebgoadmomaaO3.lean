/- MergeOrders. -/
import Derived.Test.YtiheebgoadmomaaO2
import Derived.Test.YtiheebgoadmomaaM8
set_option maxRecDepth 100000
set_option linter.unusedVariables false
namespace Go.Proofs.Ytiheebgoadmomaa
open Go Go.V Go.V.Heaps

/-- A told item's data: where it lies, bytes of some kind. -/
def Loose (h : Heap) (b : Nat) (o : It × Value × Nat) : Prop :=
  ∃ A n c, o.2.1 = .slice A n c ∧ n ≤ maxLen ∧ (n = 0 ∨ ∃ g cur, A = some ⟨g, 0, none⟩ ∧ b ≤ g ∧ Blk h g 5 cur ∧ ∀ j, j < n → ∃ z, cur[j]? = some (.int .u8 z))
theorem Loose.ext {h h' : Heap} {b : Nat} {o : It × Value × Nat} (hl : Loose h b o) (hx : Ext h h') : Loose h' b o := by
  obtain ⟨A, n, c, e, hn, hr⟩ := hl
  exact ⟨A, n, c, e, hn, hr.imp id fun ⟨g, cur, e1, e2, e3, e4⟩ => ⟨g, cur, e1, e2, e3.ext hx, e4⟩⟩
theorem Loose.set {h : Heap} {b : Nat} {o : It × Value × Nat} (hl : Loose h b o) (g k : Nat) (z : Int) : Loose (setH h ⟨g, k, none⟩ (.int .u8 z)) b o := by
  obtain ⟨A, n, c, e, hn, hr⟩ := hl
  refine ⟨A, n, c, e, hn, hr.imp id ?_⟩
  rintro ⟨g', cur, e1, e2, e3, e4⟩
  by_cases hg : g' = g
  · subst hg
    refine ⟨g', _, e1, e2, e3.set k (.int .u8 z), fun j hj => ?_⟩
    obtain ⟨y, hy⟩ := e4 j hj
    have hlt : j < cur.size := (Array.getElem?_eq_some_iff.1 hy).1
    by_cases hjk : k = j
    · subst hjk; exact ⟨z, by simp [hlt]⟩
    · exact ⟨y, by rw [Array.getElem?_setIfInBounds_ne hjk]; exact hy⟩
  · exact ⟨g', cur, e1, e2, e3.far (show g' ≠ (⟨g, k, none⟩ : Addr).block from hg) _, e4⟩
theorem Loose.of {h : Heap} {b : Nat} {o : It × Value × Nat} (ho : Own h b 5 1 o.2.1 o.1.data.length (bytesV o.1.data)) : Loose h b o := by
  obtain ⟨A, c, e, _⟩ := ho.slice
  refine ⟨A, _, c, e, ho.le_max, ?_⟩
  by_cases h0 : o.1.data.length = 0
  · exact .inl h0
  · obtain ⟨g, c', cur, e', hg, hb, hn, hm, hs, ht⟩ := ho.blk (by omega)
    rw [e] at e'
    injection e' with e1
    refine .inr ⟨g, cur, e1, hg, hb, fun j hj => ?_⟩
    have hj' : (bytesV o.1.data)[j]? = some (.int .u8 ((o.1.data[j]).toNat : Int)) := by simp [bytesV, hj]
    rw [← ht, List.getElem?_take] at hj'
    split at hj'
    · exact ⟨_, by simpa using hj'⟩
    · cases hj'

theorem orders_fn {h : Heap} {v : Value} {ls0 : List (List It)} (hs0 : SrcsV h v ls0) : FnS Try.prog 4 [v] h fun u h' => u = .bool true ∧ Ext h h' := by
  refine FnS.intro Try.func4 rfl rfl rfl ?_
  refine Sat.seq ?_
  refine Sat.region rfl ?_
  refine Sat.seq ?_
  refine Sat.seq ?_
  refine Sat.region rfl ?_
  refine awake_fn.mono ?_
  rintro u h1 ⟨rfl, x1⟩
  refine Sat.cond ?_
  refine Sat.skip ?_
  refine Sat.seq ?_
  refine Sat.region rfl ?_
  refine (few_fn (hs0.ext x1)).mono ?_
  rintro u h2 ⟨x2, ls, hs, hl8, hl12, hbig⟩
  have htot : total ls ≤ 96 := by
    have := total_le hl12
    have := Nat.mul_le_mul_right 12 hl8
    omega
  have hbig' : ∀ l ∈ ls, ∀ x ∈ l, x.data.length ≤ 1000000000 := fun l hl x hx => Nat.le_trans (hbig l hl x hx) (by decide)
  refine Sat.seq ?_
  refine Sat.region rfl ?_
  refine (own_fn hs (by omega) (by omega) hbig').mono ?_
  rintro u3 h3 ⟨x3, hs3⟩
  refine Sat.seq ?_
  refine Sat.region rfl ?_
  refine (merge_fn hs3 (by omega) (by omega) hbig').mono ?_
  rintro u4 h4 ⟨x4, outs, o4, hd4, hm4⟩
  refine (refMerge_fn (hs.ext (x3.trans x4)) (by omega) (by omega)).mono ?_
  rintro u5 h5 ⟨x5, outs2, o5, hb5, hm5⟩
  have huni := Merges.unique It.at_ hm4 hm5
  have hlen : outs.length = outs2.length := by have := congrArg List.length huni; simpa using this
  have hol := Merges.length It.at_ hm4
  rw [List.length_map] at hol
  obtain ⟨B4, c4, rfl, _⟩ := o4.slice
  obtain ⟨B5, c5, rfl, _⟩ := o5.slice
  obtain ⟨A2, c2, rfl, _, hsrc2⟩ := id hs
  obtain ⟨A3, c3, rfl, _, hsrc3⟩ := id hs3
  have hch : chg ((outs.map fun o => (o.1, o.2.2)).map (·.2)) (outs.map fun o => (o.1, o.2.2)).length = chg (outs2.map (·.2.2)) outs2.length := by
    rw [huni]
    simp [Function.comp_def]
  refine Sat.seq ?_
  refine Sat.seq ?_
  refine Sat.region rfl ?_
  refine ⟨rfl, fun h => absurd (by rw [hlen]) h, fun _ => ?_⟩
  refine (steps_fn (hs3.ext (x4.trans x5)) (by omega) (by omega) hbig' hm4).mono ?_
  rintro u h6 ⟨rfl, x6⟩
  refine (refSteps_fn (o5.ext x6) (by omega)).mono ?_
  rintro u h6' ⟨rfl, rfl⟩
  refine ⟨rfl, fun h => absurd (by rw [hch]) h, fun _ => ?_⟩
  refine Sat.cond ?_
  refine Sat.skip ?_
  have x36 := (x4.trans x5).trans x6
  have x46 := x5.trans x6
  -- each is the same
  refine Sat.cut (X := Unit) (fun _ => [(0, .slice A2 ls.length c2), (3, .slice A3 ls.length c3), (4, .slice B4 outs.length c4)]) (fun _ h' => Ext h6' h') ?_ ?_
  · refine Sat.seq ?_
    refine Sat.region rfl ?_
    refine Sat.block ?_
    refine Sat.loop (X := Nat) (fun i => [(0, .slice A2 ls.length c2), (3, .slice A3 ls.length c3), (4, .slice B4 outs.length c4), (5, .slice B5 outs2.length c5), (35, .int .i64 (outs.length : Int)), (36, .int .i64 (i : Int))]) (fun i h' => Ext h6' h' ∧ i ≤ outs.length) (fun i => outs.length - i) 0
      ⟨rfl, rfl, rfl, rfl, rfl, rfl, trivial⟩ ⟨Ext.refl _, Nat.zero_le _⟩ ?_
    rintro i h7 ⟨x7, hi⟩
    refine Sat.seq ?_
    refine Sat.region rfl ?_
    refine ⟨rfl, fun h => ?_, fun h => ?_⟩
    rotate_left
    · refine Sat.seq ?_
      refine Sat.cond ?_
      refine Sat.exit ?_
      exact ⟨(), ⟨rfl, rfl, rfl, trivial⟩, x7⟩
    have hil : i < outs.length := by omega
    have hil2 : i < outs2.length := by omega
    refine Sat.seq ?_
    refine Sat.cond ?_
    refine Sat.skip ?_
    refine Sat.cut (X := Unit) (fun _ => [(0, .slice A2 ls.length c2), (3, .slice A3 ls.length c3), (4, .slice B4 outs.length c4), (5, .slice B5 outs2.length c5), (35, .int .i64 (outs.length : Int)), (36, .int .i64 (i : Int))]) (fun _ h' => Ext h6' h') ?_ ?_
    rotate_left
    · rintro _ h8 x8
      refine Sat.region rfl ?_
      refine ⟨rfl, ((i + 1 : Nat) : Int), by rw [wrap_i64 (by omega) (by omega)]; omega, ?_⟩
      exact ⟨i + 1, ⟨rfl, rfl, rfl, rfl, rfl, rfl, trivial⟩, ⟨x8, hil⟩, by omega⟩
    obtain ⟨g, cg, e, _, _, hrow, _⟩ := (o4.ext (x46.trans x7)).ptr (by omega)
    injection e with e _ _
    subst e
    obtain ⟨g2, cg2, e, _, _, hrow2, _⟩ := (o5.ext (x6.trans x7)).ptr (by omega)
    injection e with e _ _
    subst e
    have ha : outs[i]? = some outs[i] := List.getElem?_eq_getElem hil
    have hb : outs2[i]? = some outs2[i] := List.getElem?_eq_getElem hil2
    have hab : (outs[i].1, outs[i].2.2) = (outs2[i].1, outs2[i].2.2) := by
      have h1 : (outs.map fun o => (o.1, o.2.2))[i]? = some (outs[i].1, outs[i].2.2) := by rw [List.getElem?_map, ha]; rfl
      have h2 : (outs2.map fun o => (o.1, o.2.2))[i]? = some (outs2[i].1, outs2[i].2.2) := by rw [List.getElem?_map, hb]; rfl
      rw [huni, h2] at h1
      injection h1 with h1
      exact h1.symm
    have ra := hrow.elem plC_len ha
    have rb := hrow2.elem plC_len hb
    have da := hd4 _ (List.mem_of_getElem? ha)
    have db := hb5 _ (List.mem_of_getElem? hb)
    generalize outs[i] = a at *
    generalize outs2[i] = b at *
    obtain ⟨x, dv, n⟩ := a
    obtain ⟨y, dw, m⟩ := b
    simp only [Prod.mk.injEq] at hab
    obtain ⟨rfl, rfl⟩ := hab
    simp only at da db
    have ta : Row h7 ((⟨g, 0, none⟩ : Addr).add (i * 10)) (itC x dv) := by have := ra.take 9; exact this
    have tb : Row h7 ((⟨g2, 0, none⟩ : Addr).add (i * 10)) (itC x dw) := by have := rb.take 9; exact this
    have bya : BytesAt h7 dv x.data := da.bytes.ext (x46.trans x7)
    have byb : BytesAt h7 dw x.data := db.ext (x46.trans x7)
    refine Sat.block ?_
    refine Sat.seq ?_
    refine Sat.region rfl ?_
    refine Sat.seq ?_
    refine Sat.drawn (.old h7.size [56, 62]) rfl (by kernel_rfl) ?_
    refine ⟨⟨g, 0, none⟩, i, rfl, rfl, hil, by decide, cellH_lt (ra 9 _ rfl), .int .i64 (n : Int), ra 9 _ rfl, ⟨g2, 0, none⟩, i, rfl, rfl, hil2, by decide, cellH_lt (rb 9 _ rfl), .int .i64 (n : Int), rb 9 _ rfl, rfl, fun h => absurd rfl h, fun _ => ?_⟩
    refine ⟨⟨g, 0, none⟩, i, rfl, rfl, hil, by decide, cellH_lt (ra 0 _ rfl), itC x dv, rfl, by rw [add_zero]; exact ta, ?_⟩
    refine (told_fn (by obtain ⟨A, c, e, _⟩ := bya; exact ⟨A, _, c, e⟩)).mono ?_
    rintro u h8 ⟨rfl, x8⟩
    refine ⟨x8.2, ?_⟩
    refine ⟨⟨g2, 0, none⟩, i, rfl, rfl, hil2, by decide, cellH_lt (rb 0 _ rfl), itC x dw, rfl, by rw [add_zero]; exact tb.ext x8, ?_⟩
    refine (same_fn (bya.ext x8) (byb.ext x8)).mono ?_
    rintro u h9 ⟨rfl, x9⟩
    refine ⟨fun k hk => x9.2 k (Nat.lt_of_lt_of_le hk x8.1), ?_⟩
    refine Sat.cond ?_
    refine Sat.skip ?_
    exact ⟨(), ⟨rfl, rfl, rfl, rfl, rfl, rfl, trivial⟩, x7.trans (x8.trans x9)⟩
  rintro _ h7 x7
  have x37 := x36.trans x7
  -- what came is written over
  refine Sat.cut (X := Unit) (fun _ => [(0, .slice A2 ls.length c2), (3, .slice A3 ls.length c3)]) (fun _ h' => Ext h3 h') ?_ ?_
  · refine Sat.seq ?_
    refine Sat.region rfl ?_
    refine Sat.block ?_
    refine Sat.loop (X := Nat) (fun i => [(0, .slice A2 ls.length c2), (3, .slice A3 ls.length c3), (66, .slice B4 outs.length c4), (67, .int .i64 (outs.length : Int)), (68, .int .i64 (i : Int))])
      (fun i h' => Ext h3 h' ∧ i ≤ outs.length ∧ Own h' h3.size 39 10 (.slice B4 outs.length c4) outs.length (outs.flatMap plC) ∧ ∀ o ∈ outs, Loose h' h3.size o) (fun i => outs.length - i) 0
      ⟨rfl, rfl, rfl, rfl, rfl, trivial⟩ ⟨x37, Nat.zero_le _, o4.ext (x46.trans x7), fun o ho => (Loose.of (hd4 o ho)).ext (x46.trans x7)⟩ ?_
    rintro i h8 ⟨x8, hi, o8, hu8⟩
    refine Sat.seq ?_
    refine Sat.region rfl ?_
    refine ⟨rfl, fun h => ?_, fun h => ?_⟩
    rotate_left
    · refine Sat.seq ?_
      refine Sat.cond ?_
      refine Sat.exit ?_
      exact ⟨(), ⟨rfl, rfl, trivial⟩, x8⟩
    have hil : i < outs.length := by omega
    refine Sat.seq ?_
    refine Sat.cond ?_
    refine Sat.skip ?_
    obtain ⟨g, cg, e, _, _, hrow, _⟩ := o8.ptr (by omega)
    injection e with e _ _
    subst e
    refine Sat.cut (X := Unit) (fun _ => [(0, .slice A2 ls.length c2), (3, .slice A3 ls.length c3), (66, .slice (some ⟨g, 0, none⟩) outs.length c4), (67, .int .i64 (outs.length : Int)), (68, .int .i64 (i : Int))])
      (fun _ h' => Ext h3 h' ∧ Own h' h3.size 39 10 (.slice (some ⟨g, 0, none⟩) outs.length c4) outs.length (outs.flatMap plC) ∧ ∀ o ∈ outs, Loose h' h3.size o) ?_ ?_
    rotate_left
    · rintro _ h9 ⟨x9, o9, hu9⟩
      refine Sat.region rfl ?_
      refine ⟨rfl, ((i + 1 : Nat) : Int), by rw [wrap_i64 (by omega) (by omega)]; omega, ?_⟩
      exact ⟨i + 1, ⟨rfl, rfl, rfl, rfl, rfl, trivial⟩, ⟨x9, hil, o9, hu9⟩, by omega⟩
    have ha : outs[i]? = some outs[i] := List.getElem?_eq_getElem hil
    have ra := hrow.elem plC_len ha
    have hm := List.mem_of_getElem? ha
    generalize outs[i] = a at *
    obtain ⟨Ad, nd, cd, ed, hnm, _⟩ := id (hu8 a hm)
    refine Sat.block ?_
    refine Sat.seq ?_
    refine Sat.region rfl ?_
    refine ⟨⟨g, 0, none⟩, i, rfl, rfl, hil, _, rfl, ra, ?_⟩
    obtain ⟨hA, eA⟩ : ∃ hA, hA = h8.push (.cells #[.int .i64 0, .int .i64 0, .slice none 0 0, .int .i64 0, .int .u8 0, .bool false, .bool false, .int .i64 0, .int .i64 0, .int .i64 0] 39) := ⟨_, rfl⟩
    have xA : Ext h8 hA := by rw [eA]; exact Ext.push h8 _
    have bA : Blk hA h8.size 39 #[.int .i64 0, .int .i64 0, .slice none 0 0, .int .i64 0, .int .u8 0, .bool false, .bool false, .int .i64 0, .int .i64 0, .int .i64 0] := by rw [eA]; exact Blk.new h8 _ _
    refine ⟨rfl, one_pl a (by rw [ed]; rfl), (Blk.new h8 39 #[.int .i64 0, .int .i64 0, .slice none 0 0, .int .i64 0, .int .u8 0, .bool false, .bool false, .int .i64 0, .int .i64 0, .int .i64 0]).okAt (by decide), ?_⟩
    obtain ⟨hB, eB⟩ : ∃ hB, hB = setRow hA ⟨h8.size, 0, none⟩ (plC a) 0 := ⟨_, rfl⟩
    have xB : Ext h8 hB := by rw [eB]; exact setRow_new xA (Nat.le_refl _) _ _
    have bB : Blk hB h8.size 39 (plC a).toArray := by rw [eB]; exact bA.whole rfl
    refine Sat.at (h' := hB) (by rw [eB, eA]; rfl) ?_
    have cel : ∀ h', Blk h' h8.size 39 (plC a).toArray → cellH h' ⟨h8.size, 2, none⟩ = some (.slice Ad nd cd) := fun h' hb => by rw [hb.cell]; show some a.2.1 = _; rw [ed]
    refine Sat.seq ?_
    refine Sat.region rfl ?_
    refine ⟨by decide, by decide, .slice Ad nd cd, cel hB bB, ?_⟩
    refine Sat.block ?_
    refine Sat.loop (X := Nat) (fun j => [(0, .slice A2 ls.length c2), (3, .slice A3 ls.length c3), (66, .slice (some ⟨g, 0, none⟩) outs.length c4), (67, .int .i64 (outs.length : Int)), (68, .int .i64 (i : Int)), (8, .pointer (some ⟨h8.size, 0, none⟩)), (75, .int .i64 (nd : Int)), (76, .int .i64 (j : Int))])
      (fun j h' => Ext h3 h' ∧ j ≤ nd ∧ Own h' h3.size 39 10 (.slice (some ⟨g, 0, none⟩) outs.length c4) outs.length (outs.flatMap plC) ∧ (∀ o ∈ outs, Loose h' h3.size o) ∧ Blk h' h8.size 39 (plC a).toArray) (fun j => nd - j) 0
      ⟨rfl, rfl, rfl, rfl, rfl, rfl, rfl, rfl, trivial⟩ ⟨x8.trans xB, Nat.zero_le _, o8.ext xB, fun o ho => (hu8 o ho).ext xB, bB⟩ ?_
    rintro j h9 ⟨x9, hj, o9, hu9, b9⟩
    refine Sat.seq ?_
    refine Sat.region rfl ?_
    refine ⟨rfl, fun h => ?_, fun h => ?_⟩
    rotate_left
    · refine Sat.seq ?_
      refine Sat.cond ?_
      refine Sat.exit ?_
      exact ⟨(), ⟨rfl, rfl, rfl, rfl, rfl, trivial⟩, x9, o9, hu9⟩
    have hjl : j < nd := by omega
    obtain ⟨A', n', c', e', _, hr⟩ := hu9 a hm
    rw [ed] at e'
    injection e' with e1 e2 e3
    subst e1; subst e2; subst e3
    obtain ⟨gd, cur, rfl, hgd, bd, hz⟩ : ∃ gd cur, Ad = some ⟨gd, 0, none⟩ ∧ h3.size ≤ gd ∧ Blk h9 gd 5 cur ∧ ∀ j, j < nd → ∃ z, cur[j]? = some (.int .u8 z) := by
      rcases hr with h0 | h0
      · omega
      · exact h0
    obtain ⟨z, hz⟩ := hz j hjl
    have eadd : (⟨gd, 0, none⟩ : Addr).add (j * 1) = ⟨gd, j, none⟩ := by rw [add_plain, Nat.mul_one, Nat.zero_add]
    have cz : cellH h9 ((⟨gd, 0, none⟩ : Addr).add (j * 1)) = some (.int .u8 z) := by rw [eadd, bd.cell]; exact hz
    refine Sat.seq ?_
    refine Sat.cond ?_
    refine Sat.skip ?_
    refine Sat.seq ?_
    refine Sat.block ?_
    refine Sat.seq ?_
    refine Sat.region rfl ?_
    refine Sat.region rfl ?_
    refine ⟨by decide, by decide, .slice (some ⟨gd, 0, none⟩) nd cd, cel h9 b9, ?_⟩
    refine ⟨⟨gd, 0, none⟩, j, rfl, rfl, hjl, .int .u8 z, cz, ?_⟩
    refine ⟨rfl, _, rfl, ?_⟩
    refine ⟨⟨gd, 0, none⟩, j, rfl, rfl, hjl, ?_⟩
    have frd : frozenH h9 ((⟨gd, 0, none⟩ : Addr).add (j * 1)) = false := by rw [eadd]; exact bd.free j
    refine ⟨rfl, rfl, ⟨_, cz⟩, frd, ?_⟩
    rw [eadd]
    have s9 := setH_chg h9 ⟨gd, j, none⟩ (.int .u8 (bitsOf .xor .u8 z 255))
    have ne39 : ∀ {g' : Nat} {cs : Array Value}, Blk h9 g' 39 cs → g' ≠ gd := fun hb e => by subst e; exact absurd (hb.tag bd) (by decide)
    refine Sat.region rfl ?_
    refine ⟨rfl, ((j + 1 : Nat) : Int), by rw [wrap_i64 (by omega) (by simp only [maxLen] at hnm; omega)]; omega, ?_⟩
    refine ⟨j + 1, ⟨rfl, rfl, rfl, rfl, rfl, rfl, rfl, rfl, trivial⟩, ⟨x9.then_new s9 (fun k hk => by subst hk; exact hgd), hjl, o9.chg s9 (fun k hk e => ?_), fun o ho => (hu9 o ho).set gd j _, b9.chg s9 (ne39 b9)⟩, by omega⟩
    simp only at e
    obtain ⟨_, hb⟩ := o9.tag hk
    exact ne39 hb e
  rintro _ h8 x8
  have hs2' := hs.ext (x3.trans x8)
  have hs3' := hs3.ext x8
  have x08 := ((x1.trans x2).trans x3).trans x8
  refine Sat.seq ?_
  refine Sat.seq ?_
  refine Sat.region rfl ?_
  refine Sat.block ?_
  refine Sat.loop (X := Nat) (fun i => [(0, .slice A2 ls.length c2), (3, .slice A3 ls.length c3), (90, .int .i64 (ls.length : Int)), (91, .int .i64 (i : Int))]) (fun i h' => Ext h8 h' ∧ i ≤ ls.length) (fun i => ls.length - i) 0
    ⟨rfl, rfl, rfl, rfl, trivial⟩ ⟨Ext.refl _, Nat.zero_le _⟩ ?_
  rintro i h9 ⟨x9, hi⟩
  refine Sat.seq ?_
  refine Sat.region rfl ?_
  refine ⟨rfl, fun h => ?_, fun h => ?_⟩
  rotate_left
  · refine Sat.seq ?_
    refine Sat.cond ?_
    refine Sat.exit ?_
    refine Sat.seq ?_
    refine Sat.region rfl ?_
    refine Sat.ret ?_
    exact ⟨rfl, x08.trans x9⟩
  have hil : i < ls.length := by omega
  obtain ⟨p3, rfl, hp3⟩ : ∃ p, A3 = some p ∧ ∀ (i : Nat) l, ls[i]? = some l → ∃ vi, cellH h3 (p.add (i * 1)) = some vi ∧ ItemsV h3 vi l := by
    rcases hsrc3 with h0 | h0
    · subst h0; simp at hil
    · exact h0
  obtain ⟨p2, rfl, hp2⟩ : ∃ p, A2 = some p ∧ ∀ (i : Nat) l, ls[i]? = some l → ∃ vi, cellH h2 (p.add (i * 1)) = some vi ∧ ItemsV h2 vi l := by
    rcases hsrc2 with h0 | h0
    · subst h0; simp at hil
    · exact h0
  have hli : ls[i]? = some ls[i] := List.getElem?_eq_getElem hil
  obtain ⟨v3, hv3, Bi, ci, rfl, _, hit3⟩ := hp3 i _ hli
  obtain ⟨v2, hv2, Bj, cj, rfl, _, hit2⟩ := hp2 i _ hli
  have hlm := hl12 _ (List.mem_of_getElem? hli)
  generalize ls[i] = l at *
  have x39 := x8.trans x9
  have x29 := x3.trans x39
  refine Sat.seq ?_
  refine Sat.cond ?_
  refine Sat.skip ?_
  refine Sat.cut (X := Unit) (fun _ => [(0, .slice (some p2) ls.length c2), (3, .slice (some p3) ls.length c3), (90, .int .i64 (ls.length : Int)), (91, .int .i64 (i : Int))]) (fun _ h' => Ext h8 h') ?_ ?_
  rotate_left
  · rintro _ h10 x10
    refine Sat.region rfl ?_
    refine ⟨rfl, ((i + 1 : Nat) : Int), by rw [wrap_i64 (by omega) (by omega)]; omega, ?_⟩
    exact ⟨i + 1, ⟨rfl, rfl, rfl, rfl, trivial⟩, ⟨x10, hil⟩, by omega⟩
  refine Sat.block ?_
  refine Sat.seq ?_
  refine Sat.region rfl ?_
  refine Sat.seq ?_
  refine Sat.region rfl ?_
  refine ⟨p3, i, rfl, rfl, hil, .slice Bi l.length ci, x39.cell hv3, ?_⟩
  refine Sat.block ?_
  refine Sat.loop (X := Nat) (fun j => [(0, .slice (some p2) ls.length c2), (3, .slice (some p3) ls.length c3), (90, .int .i64 (ls.length : Int)), (91, .int .i64 (i : Int)), (10, .int .i64 (i : Int)), (98, .int .i64 (l.length : Int)), (99, .int .i64 (j : Int))]) (fun j h' => Ext h9 h' ∧ j ≤ l.length) (fun j => l.length - j) 0
    ⟨rfl, rfl, rfl, rfl, rfl, rfl, rfl, trivial⟩ ⟨Ext.refl _, Nat.zero_le _⟩ ?_
  rintro j h10 ⟨x10, hj⟩
  refine Sat.seq ?_
  refine Sat.region rfl ?_
  refine ⟨rfl, fun h => ?_, fun h => ?_⟩
  rotate_left
  · refine Sat.seq ?_
    refine Sat.cond ?_
    refine Sat.exit ?_
    exact ⟨(), ⟨rfl, rfl, rfl, rfl, trivial⟩, x9.trans x10⟩
  have hjl : j < l.length := by omega
  obtain ⟨pi, rfl, hpi⟩ : ∃ p, Bi = some p ∧ ItemsAt h3 p l := by
    rcases hit3 with h0 | h0
    · subst h0; simp at hjl
    · exact h0
  obtain ⟨pj, rfl, hpj⟩ : ∃ p, Bj = some p ∧ ItemsAt h2 p l := by
    rcases hit2 with h0 | h0
    · subst h0; simp at hjl
    · exact h0
  have hlj : l[j]? = some l[j] := List.getElem?_eq_getElem hjl
  obtain ⟨D1, d1, r1, y1⟩ := hpi j _ hlj
  obtain ⟨D2, d2, r2, y2⟩ := hpj j _ hlj
  generalize l[j] = x at *
  have q1 := r1.ext (x39.trans x10)
  have q2 := r2.ext (x29.trans x10)
  have cv3 := (x39.trans x10).cell hv3
  have cv2 := (x29.trans x10).cell hv2
  refine Sat.seq ?_
  refine Sat.cond ?_
  refine Sat.skip ?_
  refine Sat.seq ?_
  refine Sat.block ?_
  refine Sat.seq ?_
  refine Sat.region rfl ?_
  refine Sat.seq ?_
  refine Sat.drawn (.old h10.size [109, 117]) rfl (by kernel_rfl) ?_
  refine ⟨p3, i, rfl, rfl, hil, cellH_lt cv3, .slice (some pi) l.length ci, cv3, pi, j, rfl, rfl, hjl, ?_⟩
  refine ⟨by have := cellH_lt (q1 0 _ rfl); rwa [add_block] at this, itC x (.slice D1 x.data.length d1), rfl, q1, ?_⟩
  refine (told_fn ⟨D1, _, d1, rfl⟩).mono ?_
  rintro u h11 ⟨rfl, x11⟩
  refine ⟨x11.2, ?_⟩
  refine ⟨p2, i, rfl, rfl, hil, cellH_lt cv2, .slice (some pj) l.length cj, x11.cell cv2, pj, j, rfl, rfl, hjl, ?_⟩
  refine ⟨by have := cellH_lt (q2 0 _ rfl); rwa [add_block] at this, itC x (.slice D2 x.data.length d2), rfl, q2.ext x11, ?_⟩
  refine (same_fn ((y1.ext (x39.trans x10)).ext x11) ((y2.ext (x29.trans x10)).ext x11)).mono ?_
  rintro u h12 ⟨rfl, x12⟩
  refine ⟨fun k hk => x12.2 k (Nat.lt_of_lt_of_le hk x11.1), ?_⟩
  refine Sat.cond ?_
  refine Sat.skip ?_
  refine Sat.region rfl ?_
  refine ⟨rfl, ((j + 1 : Nat) : Int), by rw [wrap_i64 (by omega) (by omega)]; omega, ?_⟩
  exact ⟨j + 1, ⟨rfl, rfl, rfl, rfl, rfl, rfl, rfl, trivial⟩, ⟨x10.trans (x11.trans x12), hjl⟩, by omega⟩
end Go.Proofs.Ytiheebgoadmomaa
