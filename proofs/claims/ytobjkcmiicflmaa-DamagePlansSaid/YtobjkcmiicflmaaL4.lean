/- Lines: each, Fill, Resize. -/
import Derived.Test.YtobjkcmiicflmaaL3
set_option maxRecDepth 100000
set_option linter.unusedVariables false
namespace Go.Proofs.Ytobjkcmiicflmaa
open Go Go.V

theorem Own.ne {h : Heap} {b e size n c g g' t : Nat} {xs : List Value} {cs : Array Value} (ho : Own h b e size (.slice (some ⟨g, 0, none⟩) n c) n xs) (hb : Blk h g' t cs) (hne : e ≠ t) : g' ≠ g := fun e' => by
  obtain ⟨cur, hc⟩ := ho.tag (g := g) rfl
  subst e'
  exact hne (hc.tag hb)

/-- Each cell of a span changed. -/
def mapSpan (f : Cel → Cel) (a n : Nat) (l : List Cel) : List Cel := l.mapIdx fun j x => if a ≤ j ∧ j < a + n then f x else x
theorem mapSpan_length (f : Cel → Cel) (a n : Nat) (l : List Cel) : (mapSpan f a n l).length = l.length := by simp [mapSpan]
theorem mapSpan_get (f : Cel → Cel) (a n : Nat) (l : List Cel) (j : Nat) : (mapSpan f a n l)[j]? = (l[j]?).map fun x => if a ≤ j ∧ j < a + n then f x else x := by simp [mapSpan, List.getElem?_mapIdx]
theorem mapSpan_zero (f : Cel → Cel) (a : Nat) (l : List Cel) : mapSpan f a 0 l = l := by
  apply List.ext_getElem?
  intro j
  rw [mapSpan_get]
  cases l[j]? with
  | none => rfl
  | some x => simp only [Option.map_some]; rw [if_neg (by omega)]
theorem mapSpan_step (f : Cel → Cel) (a i : Nat) (l : List Cel) (x : Cel) (hx : l[a + i]? = some x) : overL (mapSpan f a i l) (a + i) [f x] = mapSpan f a (i + 1) l := by
  have hlt := (List.getElem?_eq_some_iff.1 hx).1
  apply List.ext_getElem?
  intro j
  rw [overL_get (by rw [mapSpan_length]; simp only [List.length_singleton]; omega), mapSpan_get, mapSpan_get]
  simp only [List.length_singleton]
  by_cases h1 : j = a + i
  · subst h1
    rw [if_pos (by omega), hx]
    simp
  · rw [if_neg (by omega)]
    cases l[j]? with
    | none => rfl
    | some y =>
      simp only [Option.map_some]
      by_cases h2 : a ≤ j ∧ j < a + i
      · rw [if_pos h2, if_pos (by omega)]
      · rw [if_neg h2, if_neg (by omega)]

theorem each_fn {h : Heap} {u : Value} {l : Ln} {lo hi : Int} {fno : FuncId} {first cap : Array Value} {f : Cel → Cel} (hu : LnV h u l) (hn : l.cells.length ≤ 1000000) (hlo : lo ≤ 9223372036854775807)
    (hdo : ∀ (c : Cel) (h : Heap), FnS Try.prog fno (first.toList ++ [.agg (celC c).toArray] ++ cap.toList) h fun u h' => u = .agg (celC (f c)).toArray ∧ Ext h h') :
    FnS Try.prog 53 [u, .int .i64 lo, .int .i64 hi, .func (.func fno) first cap] h fun r h' => Ext h h' ∧ OwnL h' h.size r ⟨mapSpan f (spA l.cells.length lo hi) (spN l.cells.length lo hi) l.cells, l.size⟩ := by
  have hu' := hu
  obtain ⟨v, rfl, hv⟩ := hu
  obtain ⟨A, c, rfl, hc, hr⟩ := hv
  refine FnS.go Try.func53 rfl rfl rfl rfl ?_
  intro g4 h4 n4 g8 h8 n8
  have x8 := n4.ext.trans n8.ext
  have b4 := n4.blk.ext n8.ext
  refine ⟨_, rfl, b4.row, ?_⟩
  refine (part_fn (l := l) (lo := lo) (hi := hi) (hu'.ext x8) hn hlo).mono ?_
  rintro r h9 ⟨v9, s, rfl, x9, o9, hs⟩
  have hfit := sp_fit l.cells.length lo hi
  generalize spA l.cells.length lo hi = a at *
  generalize spN l.cells.length lo hi = n at *
  obtain ⟨A9, c9, rfl, hc9⟩ := o9.slice
  intro g9 h10 n9
  refine ⟨rfl, n9.can rfl, fun h11 p11 => ?_⟩
  have n11 := n9.put p11 rfl
  have x11 := x8.trans (x9.trans n11.ext)
  have o11 := Own.mono (o9.ext n11.ext) x8.1
  have b8 := n8.blk.ext (x9.trans n11.ext)
  have hs8 := n8.is
  have hs9 := n9.is
  obtain ⟨S, sn, sc, rfl⟩ : ∃ S sn sc, s = .slice S sn sc := by rcases hs with ⟨_, e⟩ | ⟨g, N, C, _, e⟩ <;> exact ⟨_, _, _, e⟩
  obtain rfl : sn = n := by rcases hs with ⟨e0, e⟩ | ⟨g, N, C, _, e⟩ <;> injection e <;> omega
  refine St.go ?_
  refine St.loop (X := Nat) (fun i => [(3, .func (.func fno) first cap), (8, .pointer (some ⟨g8, 0, none⟩)), (9, .pointer (some ⟨g9, 0, none⟩)), (10, .slice S sn sc), (20, .slice S sn sc), (21, .int .i64 (sn : Int)), (22, .int .i64 (i : Int))])
    (fun i h' => Ext h h' ∧ i ≤ sn ∧ Own h' h.size 44 3 (.slice A9 l.cells.length c9) l.cells.length ((mapSpan f a i l.cells).flatMap celC) ∧ Blk h' g9 71 #[.slice A9 l.cells.length c9, .int .i64 l.size] ∧ Blk h' g8 71 #[.slice none 0 0, .int .i64 0]) (fun i => sn - i) 0
    ⟨rfl, rfl, rfl, rfl, rfl, rfl, rfl, trivial⟩ ⟨x11, Nat.zero_le _, by rw [mapSpan_zero]; exact o11, n11.blk, b8⟩ ?_
  rintro i h12 ⟨x12, hi', o12, q9, q8⟩
  refine ⟨rfl, fun h13 => ?_, fun h13 => ?_⟩
  rotate_left
  · have : i = sn := by omega
    subst this
    refine ⟨_, rfl, q9.row, rfl, q8.can rfl, fun h14 p14 => ?_⟩
    have b14 := p14.all q8 rfl
    have x14 := p14.ext x12 (by rw [hs8]; exact n4.ext.1)
    refine ⟨_, rfl, b14.row, x14, _, rfl, ?_⟩
    have := o12.chg p14.chg fun g' hg' e => by
      obtain ⟨cur, hcur⟩ := o12.tag hg'
      have e : g' = g8 := e
      subst e
      exact absurd (hcur.tag q8) (by decide)
    simpa [OwnC, mapSpan_length] using this
  have hil : i < sn := by omega
  rcases hs with ⟨e0, e⟩ | ⟨g, N, C, e1, e2⟩
  · omega
  injection e1 with e1 e1' e1''
  subst e1; subst e1'; subst e1''
  injection e2 with e2 _ e2'
  subst e2; subst e2'
  have hxi : a + i < l.cells.length := by omega
  have hx : l.cells[a + i]? = some l.cells[a + i] := List.getElem?_eq_getElem hxi
  generalize l.cells[a + i] = x at hx
  have hcur : (mapSpan f a i l.cells)[a + i]? = some x := by rw [mapSpan_get, hx]; simp only [Option.map_some]; rw [if_neg (by omega)]
  have hrow : Row h12 ⟨g, (a + i) * 3, none⟩ (celC x) := by
    obtain ⟨g', c', e, _, _, hrow, _⟩ := o12.ptr (by omega)
    injection e with e
    injection e with e
    injection e with e
    subst e
    have := hrow.elem celC_len hcur
    rwa [add_plain, Nat.zero_add] at this
  have hadd : (⟨g, a * 3, none⟩ : Addr).add (i * 3) = ⟨g, (a + i) * 3, none⟩ := by rw [add_plain, ← Nat.add_mul]
  refine ⟨⟨g, a * 3, none⟩, i, rfl, rfl, hil, _, rfl, by rw [hadd]; exact hrow, ?_⟩
  intro g12 h13 n13
  refine ⟨by simp [celC, List.all, Value.oneCell'], n13.can rfl, fun h14 p14 => ?_⟩
  have n14 := n13.put p14 rfl
  refine ⟨_, rfl, n14.row, ?_⟩
  refine (hdo x h14).mono ?_
  rintro u h15 ⟨rfl, x15⟩
  have x125 := n14.ext.trans x15
  have o15 := o12.ext x125
  refine ⟨⟨g, a * 3, none⟩, i, rfl, rfl, hil, ?_⟩
  rw [hadd]
  have hm3 : (a + i) * 3 + 3 ≤ l.cells.length * 3 := by rw [← Nat.succ_mul]; exact Nat.mul_le_mul_right _ hxi
  refine ⟨by simp [celC, List.all, Value.oneCell'], o15.can hm3, fun h16 p16 => ?_⟩
  have o16 := o15.over p16 (by simpa [celC] using hm3)
  have e16 : overL ((mapSpan f a i l.cells).flatMap celC) ((a + i) * 3) (celC (f x)).toArray.toList = (mapSpan f a (i + 1) l.cells).flatMap celC := by
    rw [← mapSpan_step f a i l.cells x hx, overL_flat celC_len]
    simp
  rw [e16] at o16
  have hb := (o12.base_le g rfl).1
  refine ⟨rfl, ((i + 1 : Nat) : Int), by rw [wrap_i64 (by omega) (by omega)]; omega, ?_⟩
  exact ⟨i + 1, ⟨rfl, rfl, rfl, rfl, rfl, rfl, rfl, trivial⟩, ⟨p16.ext (x12.trans x125) hb, hil, o16, p16.far (q9.ext x125) (Own.ne o15 (q9.ext x125) (by decide)), p16.far (q8.ext x125) (Own.ne o15 (q8.ext x125) (by decide))⟩, by omega⟩

theorem put_fn {h : Heap} (c x : Cel) : FnS Try.prog 54 [.agg (celC c).toArray, .agg (celC x).toArray] h fun u h' => u = .agg (celC c).toArray ∧ Ext h h' := by
  refine FnS.go Try.func54 rfl rfl rfl rfl ?_
  intro g2 h2 n2 g3 h3 n3 g4 h4 n4
  refine ⟨_, rfl, (n2.blk.ext (n3.ext.trans n4.ext)).row, rfl, n4.can rfl, fun h5 p5 => ?_⟩
  have n5 := n4.put p5 rfl
  exact ⟨_, rfl, n5.row, rfl, n2.ext.trans (n3.ext.trans n5.ext)⟩

theorem fillLine_fn {h : Heap} {u : Value} {l : Ln} {lo hi : Int} {c : Cel} (hu : LnV h u l) (hn : l.cells.length ≤ 1000000) (hlo : lo ≤ 9223372036854775807) :
    FnS Try.prog 37 [u, .int .i64 lo, .int .i64 hi, .agg (celC c).toArray] h fun r h' => Ext h h' ∧ OwnL h' h.size r ⟨mapSpan (fun _ => c) (spA l.cells.length lo hi) (spN l.cells.length lo hi) l.cells, l.size⟩ := by
  have hu' := hu
  obtain ⟨v, rfl, hv⟩ := hu
  obtain ⟨A, cc, rfl, hc, hr⟩ := hv
  refine FnS.go Try.func37 rfl rfl rfl rfl ?_
  intro g4 h4 n4 g7 h7 n7 g8 h8 n8
  have x8 := n4.ext.trans (n7.ext.trans n8.ext)
  refine ⟨_, rfl, (n4.blk.ext (n7.ext.trans n8.ext)).row, _, rfl, (n7.blk.ext n8.ext).row, ?_⟩
  refine (each_fn (l := l) (f := fun _ => c) (fno := 54) (first := #[.agg (celC c).toArray]) (cap := #[]) (hu'.ext x8) hn hlo fun x h => put_fn c x).mono ?_
  rintro r h9 ⟨x9, v9, rfl, o9⟩
  obtain ⟨A9, c9, rfl, hc9⟩ := o9.slice
  have b8 := n8.blk.ext x9
  refine ⟨rfl, b8.can rfl, fun h10 p10 => ?_⟩
  have b10 := p10.all b8 rfl
  have hle : h.size ≤ h7.size := (n4.ext.trans n7.ext).1
  have x10 := p10.ext (x8.trans x9) (by rw [n8.is]; exact hle)
  refine ⟨_, rfl, b10.row, x10, _, rfl, ?_⟩
  exact Own.mono (o9.chg p10.chg fun g' hg' e => by have := (o9.base_le g' hg').1; rw [n8.size] at this; have := n8.is; have e : g' = g8 := e; omega) x8.1

/-- So many cells: the line's own, and blanks behind. -/
def fitC (n : Nat) (l : List Cel) : List Cel := overL (List.replicate n blankC) 0 (l.take n)
theorem fitC_length (n : Nat) (l : List Cel) : (fitC n l).length = n := by unfold fitC; rw [overL_length (by simp; omega), List.length_replicate]
theorem resizeLine_fn {h : Heap} {u : Value} {l : Ln} {n : Nat} (hu : LnV h u l) (hn : l.cells.length ≤ 1000000) (hn5 : n ≤ 500) :
    FnS Try.prog 34 [u, .int .i64 (n : Int)] h fun r h' => Ext h h' ∧ OwnL h' h.size r ⟨fitC n l.cells, l.size⟩ := by
  have hu' := hu
  obtain ⟨v, rfl, hv⟩ := hu
  obtain ⟨A, cc, rfl, hc, hr⟩ := hv
  refine FnS.go Try.func34 rfl rfl rfl rfl ?_
  intro g2 h2 n2 g4 h4 n4
  have x4 := n2.ext.trans n4.ext
  refine newLine_fn.mono ?_
  rintro r h5 ⟨x5, v5, rfl, o5⟩
  rw [clamp0_nat hn5] at o5
  simp only [newLn] at o5 ⊢
  obtain ⟨A5, c5, rfl, hc5⟩ := o5.slice
  intro g5 h6 n6
  refine ⟨rfl, n6.can rfl, fun h7 p7 => ?_⟩
  have n7 := n6.put p7 rfl
  have x47 := x5.trans n7.ext
  have b2 := n2.blk.ext (n4.ext.trans x47)
  have b4 := n4.blk.ext x47
  have o7 := o5.ext n7.ext
  refine ⟨by decide, _, n7.blk.cell 0, by decide, _, b2.cell 0, ?_⟩
  have hrl : (List.replicate n blankC).length = n := List.length_replicate
  have ltl : (l.cells.take n).length = min l.cells.length (List.replicate n blankC).length := by rw [List.length_take, hrl]; omega
  refine copy_own rfl rfl o7 (o := 0) rfl ?_ (.inr (by omega)) (vs := (l.cells.take n).flatMap celC) (by rw [flat_length celC_len, ltl]) ?_ (one_cels _) ?_
  · by_cases h0 : (List.replicate n blankC).length = 0
    · exact .inl (by omega)
    · obtain ⟨g, c', e, _⟩ := o7.ptr (by omega)
      injection e with e
      exact .inr ⟨g, _, _, by rw [e], e⟩
  · rcases hr with h0 | ⟨p, hp, hrow⟩
    · exact .inl (by rw [h0]; simp)
    · refine .inr ⟨p, hp, ?_⟩
      rw [← flat_take celC_len]
      exact (hrow.ext (x4.trans x47)).take _
  intro h8 o8 c8
  have e8 : overL ((List.replicate n blankC).flatMap celC) 0 ((l.cells.take n).flatMap celC) = (fitC n l.cells).flatMap celC := by unfold fitC; rw [overL_flat celC_len, Nat.zero_mul]
  rw [e8] at o8
  have far : ∀ {g : Nat} {cs : Array Value}, Blk h7 g 71 cs → Blk h8 g 71 cs := fun b => b.chg c8 fun e => by
    obtain ⟨cur, hcur⟩ := o7.tag e
    exact absurd (hcur.tag b) (by decide)
  have b28 := far b2
  have b48 := far b4
  have b58 := far n7.blk
  have x8 : Ext h h8 := (x4.trans x47).then_new c8 fun k hk => by have := (o7.base_le k hk).1; have := x4.1; omega
  refine ⟨by decide, _, b28.cell 1, by decide, rfl, b58.can rfl, fun h9 p9 => ?_⟩
  have b59 := p9.blk b58 (cs' := #[.slice A5 (List.replicate n blankC).length c5, .int .i64 l.size]) rfl rfl
  have hne : g4 ≠ g5 := by have := n4.is; have := n6.is; have := x5.1; have := n4.size; omega
  have b49 := p9.far b48 hne
  refine ⟨_, rfl, b59.row, rfl, b49.can rfl, fun h10 p10 => ?_⟩
  have b10 := p10.all b49 rfl
  have h5g : h.size ≤ g5 := by have := n6.is; have := x5.1; have := x4.1; omega
  have h4g : h.size ≤ g4 := by have := n4.is; have := n2.ext.1; omega
  have x10 := p10.ext (p9.ext x8 h5g) h4g
  have tagne : ∀ {hh : Heap} {g : Nat} {cs : Array Value}, Own hh h4.size 44 3 (.slice A5 (List.replicate n blankC).length c5) (List.replicate n blankC).length ((fitC n l.cells).flatMap celC) → Blk hh g 71 cs → ∀ k, (Value.slice A5 (List.replicate n blankC).length c5).ownBlock = some k → ¬ k = g := fun o b k hk e => by
    obtain ⟨cur, hcur⟩ := o.tag hk
    subst e
    exact absurd (hcur.tag b) (by decide)
  have o9 := o8.chg p9.chg (tagne o8 b58)
  have o10 := o9.chg p10.chg (tagne o9 b49)
  refine ⟨_, rfl, b10.row, x10, _, rfl, ?_⟩
  have := Own.mono o10 x4.1
  simpa [OwnC, fitC_length, hrl] using this
end Go.Proofs.Ytobjkcmiicflmaa
