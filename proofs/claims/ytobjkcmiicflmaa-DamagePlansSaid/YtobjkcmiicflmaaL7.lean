/- A page: Fill, Resize, New. -/
import Derived.Test.YtobjkcmiicflmaaL6
set_option maxRecDepth 100000
set_option linter.unusedVariables false
namespace Go.Proofs.Ytobjkcmiicflmaa
open Go Go.V

def fillF (c : Cel) (lo hi : Int) (l : Ln) : Ln := ⟨mapSpan (fun _ => c) (spA l.cells.length lo hi) (spN l.cells.length lo hi) l.cells, l.size⟩
def penC (c : Cel) : List Value := celC c ++ [.slice none 0 0]
theorem penFill_fn {h : Heap} {u : Value} {l : Ln} {lo hi : Int} {c : Cel} (hu : LnV h u l) (hn : l.cells.length ≤ 1000000) (hlo : lo ≤ 9223372036854775807) :
    FnS Try.prog 25 [.agg (penC c).toArray, u, .int .i64 lo, .int .i64 hi] h fun r h' => Ext h h' ∧ OwnL h' h.size r (fillF c lo hi l) := by
  have hu' := hu
  obtain ⟨v, rfl, hv⟩ := hu
  obtain ⟨A, cc, rfl, hc, hr⟩ := hv
  refine FnS.go Try.func25 rfl rfl rfl rfl ?_
  intro g4 h4 n4 g5 h5 n5 g8 h8 n8
  have x8 := n4.ext.trans (n5.ext.trans n8.ext)
  have b4 := n4.blk.ext (n5.ext.trans n8.ext)
  refine ⟨_, rfl, (n5.blk.ext n8.ext).row, by decide, _, rfl, b4.row.take 3, ?_⟩
  refine (fillLine_fn (l := l) (c := c) (hu'.ext x8) hn hlo).mono ?_
  rintro r h9 ⟨x9, v9, rfl, o9⟩
  obtain ⟨A9, c9, rfl, hc9⟩ := o9.slice
  have b8 := n8.blk.ext x9
  refine ⟨rfl, b8.can rfl, fun h10 p10 => ?_⟩
  have b10 := p10.all b8 rfl
  have hle : h.size ≤ h5.size := (n4.ext.trans n5.ext).1
  refine ⟨_, rfl, b10.row, p10.ext (x8.trans x9) (by rw [n8.is]; exact hle), _, rfl, ?_⟩
  exact Own.mono (o9.chg p10.chg fun g' hg' e => by have := (o9.base_le g' hg').1; rw [n8.size] at this; have := n8.is; have e : g' = g8 := e; omega) x8.1

section
variable {h h' : Heap} {base g : Nat} {vl : Value} {zs : List (Value × Ln)} {cols : Nat}
theorem fill_fn (hp : PgAt h base g vl zs cols) (b : Bx) (c : Cel) (hb : b.l ≤ 9223372036854775807) :
    FnS Try.prog 12 [.pointer (some ⟨g, 0, none⟩), .agg (bxC b).toArray, .agg (celC c).toArray] h fun _ h' => ∃ zs', PgAt h' base g vl zs' cols ∧
      zs'.map (·.2) = eachLs (fillF c (meet b (pageBx zs.length cols)).l (meet b (pageBx zs.length cols)).r) (meet b (pageBx zs.length cols)).t (meet b (pageBx zs.length cols)).b (zs.map (·.2)) ∧
      Chg (fun k => vl.ownBlock = some k) h h' ∧ ∀ z ∈ zs', z ∈ zs ∨ ∀ k, z.1.ownBlock = some k → h.size ≤ k := by
  refine FnS.go Try.func12 rfl rfl rfl rfl ?_
  intro g4 h4 n4 g5 h5 n5
  have x5 := n4.ext.trans n5.ext
  refine ⟨_, rfl, (n4.blk.ext n5.ext).row, _, rfl, n5.row, ?_⟩
  refine build_strct rfl rfl rfl (cells := (penC c).toArray) (by kernel_rfl) ?_
  refine (pageEach_fn (hp.ext x5) b (fno := 25) (first := #[.agg (penC c).toArray]) (cap := #[]) (F := fillF c) (fun u l lo hi h hu hn _ hlo _ => penFill_fn hu hn hlo) (fun lo hi l => mapSpan_length _ _ _ _) hb).mono ?_
  rintro u h6 ⟨zs', a1, a2, a3, a4⟩
  exact ⟨zs', a1, a2, (x5.chg _).trans a3, fun z hz => (a4 z hz).imp id fun f k hk => Nat.le_trans x5.1 (f k hk)⟩

def clamp1 (n : Int) : Nat := (max 1 (min n 500)).toNat
theorem clamp1_int (n : Int) : max 1 (min n 500) = (clamp1 n : Int) := by unfold clamp1; omega
theorem clamp1_le (n : Int) : 1 ≤ clamp1 n ∧ clamp1 n ≤ 500 := by unfold clamp1; omega
def rsLine (ls : List Ln) (c i : Nat) : Ln := match ls[i]? with
  | some l => ⟨fitC c l.cells, l.size⟩
  | none => newLn c
def resizeLs (ls : List Ln) (r c : Nat) : List Ln := (List.range r).map (rsLine ls c)
theorem rsLine_length (ls : List Ln) (c i : Nat) : (rsLine ls c i).cells.length = c := by
  unfold rsLine
  split
  · exact fitC_length _ _
  · simp [newLn]

/-- Lines that are being gathered: a slice of the call's own, each line's cells in a block of its own. -/
structure Gath (h : Heap) (base : Nat) (v : Value) (ys : List (Value × Ln)) (c : Nat) : Prop where
  own : Own h base 71 2 v ys.length (ys.flatMap lnC)
  cells : ∀ z ∈ ys, OwnC h base z.1 z.2.cells ∧ z.2.cells.length = c
  apart : Apart ys
theorem Gath.nil (h : Heap) (base c : Nat) : Gath h base (.slice none 0 0) [] c := ⟨Own.nil _ _ _ _, (fun z hz => by cases hz), .nil⟩
theorem Gath.ext {v : Value} {ys : List (Value × Ln)} {c : Nat} (hr : Gath h base v ys c) (hx : Ext h h') : Gath h' base v ys c :=
  ⟨hr.own.ext hx, fun z hz => ⟨(hr.cells z hz).1.ext hx, (hr.cells z hz).2⟩, hr.apart⟩
theorem Gath.push {v v2 : Value} {ys : List (Value × Ln)} {c : Nat} {h2 h3 : Heap} (hr : Gath h base v ys c) (hx : Ext h h2) {y : Value × Ln} (ho : OwnC h2 h.size y.1 y.2.cells) (hl : y.2.cells.length = c) (hb : base ≤ h.size)
    (o : Own h3 base 71 2 v2 (ys.length + 1) (ys.flatMap lnC ++ lnC y)) (cg : Chg (fun k => v.ownBlock = some k) h2 h3) : Gath h3 base v2 (ys ++ [y]) c := by
  have far : ∀ {b : Nat} {v' : Value} {l : List Cel}, OwnC h2 b v' l → OwnC h3 b v' l := fun o' => o'.chg cg fun k hk e => by
    obtain ⟨cur, hcur⟩ := o'.tag hk
    obtain ⟨cur', hcur'⟩ := (hr.own.ext hx).tag e
    exact absurd (hcur.tag hcur') (by decide)
  refine ⟨by simpa using o, fun z hz => ?_, ?_⟩
  · rcases List.mem_append.1 hz with hz | hz
    · exact ⟨far ((hr.cells z hz).1.ext hx), (hr.cells z hz).2⟩
    · rw [List.mem_singleton.1 hz]; exact ⟨Own.mono (far ho) hb, hl⟩
  · unfold Apart
    rw [List.pairwise_append]
    refine ⟨hr.apart, List.pairwise_singleton _ _, fun a ha b hb' k h4 h5 => ?_⟩
    rw [List.mem_singleton.1 hb'] at h5
    have := (ho.base_le k h5).1
    have := ((hr.cells a ha).1.base_le k h4).2
    omega

theorem resize_fn (hp : PgAt h base g vl zs cols) (r c : Int) :
    FnS Try.prog 23 [.pointer (some ⟨g, 0, none⟩), .int .i64 r, .int .i64 c] h fun _ h' => ∃ vl' zs', PgAt h' base g vl' zs' (clamp1 c) ∧ zs'.map (·.2) = resizeLs (zs.map (·.2)) (clamp1 r) (clamp1 c) ∧
      Chg (fun k => k = g) h h' ∧ ∀ k, Foot g vl' zs' k → k = g ∨ h.size ≤ k := by
  have hcl := clamp1_le c
  have hrl := clamp1_le r
  have hg := hp.var.lt
  have hrows := hp.rows
  refine FnS.go Try.func23 rfl rfl rfl rfl ?_
  refine ⟨_, rfl, _, clamp1_int r, _, rfl, _, clamp1_int c, ?_⟩
  obtain ⟨A, cp, rfl, hcp⟩ := hp.own.slice
  refine ⟨by decide, rfl, hp.var.can rfl, fun h1 p1 => ?_⟩
  have b1 := p1.blk hp.var (cs' := #[.slice A zs.length cp, .int .i64 (clamp1 c : Int)]) rfl rfl
  have c1 : Chg (fun k => k = g) h h1 := p1.chg
  have s1 := p1.size
  have tagL : ∀ k, (Value.slice A zs.length cp).ownBlock = some k → ¬ k = g := fun k hk => (hp.lines_ne hk).1
  have lns : ∀ {h2 : Heap}, Ext h1 h2 → ∀ {i : Nat} {z : Value × Ln}, zs[i]? = some z → ∃ gl, A = some ⟨gl, 0, none⟩ ∧ Row h2 ⟨gl, i * 2, none⟩ (lnC z) ∧ LnV h2 (.agg (lnC z).toArray) z.2 := fun {h2} x2 {i z} hz => by
    have o1 := (hp.own.chg c1 tagL).ext x2
    obtain ⟨gl, c', e, _, hlt, hrow, _⟩ := o1.ptr (by have := (List.getElem?_eq_some_iff.1 hz).1; omega)
    injection e with e
    have := hrow.elem lnC_len hz
    rw [add_plain, Nat.zero_add] at this
    have hm := List.mem_of_getElem? hz
    refine ⟨gl, e, this, _, rfl, OwnC.cels (((hp.cells z hm).1.chg c1 fun k hk e => ?_).ext x2)⟩
    obtain ⟨cur, hcur⟩ := (hp.cells z hm).1.tag hk
    subst e
    exact absurd (hcur.tag hp.var) (by decide)
  refine St.cut (X := Value × List (Value × Ln)) (fun z => [(0, .pointer (some ⟨g, 0, none⟩)), (6, z.1)]) (fun z h' => Ext h1 h' ∧ Gath h' h1.size z.1 z.2 (clamp1 c) ∧ z.2.map (·.2) = resizeLs (zs.map (·.2)) (clamp1 r) (clamp1 c)) ?_ ?_
  · refine St.loop (X := Nat × Value × List (Value × Ln)) (fun z => [(0, .pointer (some ⟨g, 0, none⟩)), (2, .int .i64 (clamp1 c : Int)), (6, z.2.1), (18, .int .i64 (clamp1 r : Int)), (19, .int .i64 (z.1 : Int))])
      (fun z h' => Ext h1 h' ∧ z.1 ≤ clamp1 r ∧ Gath h' h1.size z.2.1 z.2.2 (clamp1 c) ∧ z.2.2.length = z.1 ∧ z.2.2.map (·.2) = (List.range z.1).map (rsLine (zs.map (·.2)) (clamp1 c))) (fun z => clamp1 r - z.1) (0, .slice none 0 0, [])
      ⟨rfl, rfl, rfl, rfl, rfl, trivial⟩ ⟨Ext.refl _, Nat.zero_le _, Gath.nil _ _ _, rfl, rfl⟩ ?_
    rintro ⟨i, v6, ys⟩ h2 ⟨x2, hi, R2, hl2, hm2⟩
    simp only at x2 hi R2 hl2 hm2 ⊢
    refine ⟨rfl, fun h3 => ?_, fun h3 => ?_⟩
    rotate_left
    · have : i = clamp1 r := by omega
      subst this
      exact ⟨(v6, ys), ⟨rfl, rfl, trivial⟩, x2, R2, hm2⟩
    have hstep : ∀ {v6' : Value} {ys' : List (Value × Ln)} {h5 : Heap} {y : Value × Ln}, ys' = ys ++ [y] → y.2 = rsLine (zs.map (·.2)) (clamp1 c) i → ys'.length = i + 1 ∧ ys'.map (·.2) = (List.range (i + 1)).map (rsLine (zs.map (·.2)) (clamp1 c)) := fun {v6' ys' h5 y} e1 e2 => by
      subst e1
      refine ⟨by simp [hl2], ?_⟩
      rw [List.map_append, hm2, List.range_succ, List.map_append]
      simp [e2]
    have b2 := b1.ext x2
    refine St.cut (X := Value × List (Value × Ln)) (fun z => [(0, .pointer (some ⟨g, 0, none⟩)), (2, .int .i64 (clamp1 c : Int)), (6, z.1), (18, .int .i64 (clamp1 r : Int)), (19, .int .i64 (i : Int))])
      (fun z h' => Ext h1 h' ∧ Gath h' h1.size z.1 z.2 (clamp1 c) ∧ z.2.length = i + 1 ∧ z.2.map (·.2) = (List.range (i + 1)).map (rsLine (zs.map (·.2)) (clamp1 c))) ?_ ?_
    rotate_left
    · rintro ⟨v6', ys'⟩ h5 ⟨x5, R5, hl5, hm5⟩
      refine ⟨rfl, ((i + 1 : Nat) : Int), by rw [wrap_i64 (by omega) (by omega)]; omega, ?_⟩
      exact ⟨(i + 1, v6', ys'), ⟨rfl, rfl, rfl, rfl, rfl, trivial⟩, ⟨x5, by simp only; omega, R5, hl5, hm5⟩, by simp only; omega⟩
    refine ⟨by decide, _, b2.cell 0, rfl, fun h4 => ?_, fun h4 => ?_⟩
    · have hil : i < zs.length := by omega
      have hz : zs[i]? = some zs[i] := List.getElem?_eq_getElem hil
      generalize zs[i] = z at hz
      obtain ⟨gl, rfl, hrow, hln⟩ := lns x2 hz
      have hzl := (hp.cells z (List.mem_of_getElem? hz)).2
      have hcols := hp.cols
      refine ⟨by decide, _, b2.cell 0, ⟨gl, 0, none⟩, i, rfl, rfl, hil, _, rfl, by rw [add_plain, Nat.zero_add]; exact hrow, ?_⟩
      refine (resizeLine_fn hln (by omega) hcl.2).mono ?_
      rintro u h5 ⟨x5, v5, rfl, o5⟩
      have o5' := o5
      obtain ⟨A5, c5, rfl, _⟩ := o5.slice
      refine one_lit iLines (x := .agg #[.slice A5 (fitC (clamp1 c) z.2.cells).length c5, .int .i64 z.2.size]) rfl ?_
      intro g6 h6 n6
      have x56 := x5.trans n6.ext
      have R6 := R2.ext x56
      refine append_to iLines R6.own (news := [.slice A5 (fitC (clamp1 c) z.2.cells).length c5, .int .i64 z.2.size]) rfl (.inr ⟨_, rfl, n6.row⟩) (by simp [Value.oneCell']) (by omega) (by have := x2.1; have := x56.1; omega) ?_
      intro v7 h7 o7 c7 _
      have e : rsLine (zs.map (·.2)) (clamp1 c) i = ⟨fitC (clamp1 c) z.2.cells, z.2.size⟩ := by unfold rsLine; rw [List.getElem?_map, hz]; rfl
      have R7 := R2.push x56 (y := (.slice A5 (fitC (clamp1 c) z.2.cells).length c5, ⟨fitC (clamp1 c) z.2.cells, z.2.size⟩)) (o5'.ext n6.ext) (fitC_length _ _) x2.1 o7 c7
      obtain ⟨q1, q2⟩ := hstep (v6' := v7) (h5 := h7) (y := (.slice A5 (fitC (clamp1 c) z.2.cells).length c5, ⟨fitC (clamp1 c) z.2.cells, z.2.size⟩)) rfl e.symm
      exact ⟨(v7, ys ++ [(.slice A5 (fitC (clamp1 c) z.2.cells).length c5, ⟨fitC (clamp1 c) z.2.cells, z.2.size⟩)]), ⟨rfl, rfl, rfl, rfl, rfl, trivial⟩, (x2.trans x56).then_new c7 fun k hk => (R6.own.base_le k hk).1, R7, q1, q2⟩
    · refine newLine_fn.mono ?_
      rintro u h5 ⟨x5, v5, rfl, o5⟩
      rw [clamp0_nat hcl.2] at o5 ⊢
      have o5' := o5
      obtain ⟨A5, c5, rfl, _⟩ := o5.slice
      refine one_lit iLines (x := .agg #[.slice A5 (newLn (clamp1 c)).cells.length c5, .int .i64 (newLn (clamp1 c)).size]) rfl ?_
      intro g6 h6 n6
      have x56 := x5.trans n6.ext
      have R6 := R2.ext x56
      refine append_to iLines R6.own (news := [.slice A5 (newLn (clamp1 c)).cells.length c5, .int .i64 (newLn (clamp1 c)).size]) rfl (.inr ⟨_, rfl, n6.row⟩) (by simp [Value.oneCell']) (by omega) (by have := x2.1; have := x56.1; omega) ?_
      intro v7 h7 o7 c7 _
      have e : rsLine (zs.map (·.2)) (clamp1 c) i = newLn (clamp1 c) := by unfold rsLine; rw [List.getElem?_map, List.getElem?_eq_none (by omega)]; rfl
      have R7 := R2.push x56 (y := (.slice A5 (newLn (clamp1 c)).cells.length c5, newLn (clamp1 c))) (o5'.ext n6.ext) (by simp [newLn]) x2.1 o7 c7
      obtain ⟨q1, q2⟩ := hstep (v6' := v7) (h5 := h7) (y := (.slice A5 (newLn (clamp1 c)).cells.length c5, newLn (clamp1 c))) rfl e.symm
      exact ⟨(v7, ys ++ [(.slice A5 (newLn (clamp1 c)).cells.length c5, newLn (clamp1 c))]), ⟨rfl, rfl, rfl, rfl, rfl, trivial⟩, (x2.trans x56).then_new c7 fun k hk => (R6.own.base_le k hk).1, R7, q1, q2⟩
  rintro ⟨v6, ys⟩ h2 ⟨x2, R2, hm2⟩
  simp only at R2 hm2 ⊢
  have b2 := b1.ext x2
  have hyl : ys.length = clamp1 r := by have := congrArg List.length hm2; simpa [resizeLs] using this
  obtain ⟨A6, c6, rfl, _⟩ := R2.own.slice
  refine ⟨by decide, rfl, b2.can rfl, fun h3 p3 => ?_⟩
  have b3 := p3.blk b2 (cs' := #[.slice A6 ys.length c6, .int .i64 (clamp1 c : Int)]) rfl rfl
  have c3 : Chg (fun k => k = g) h2 h3 := p3.chg
  have hbg := hp.base
  have hgs : h.size ≤ h1.size := by omega
  refine ⟨_, ys, ⟨b3, Own.mono (R2.own.chg c3 fun k hk e => ?_) (by omega), fun z hz => ⟨Own.mono ((R2.cells z hz).1.chg c3 fun k hk e => ?_) (by omega), (R2.cells z hz).2⟩, R2.apart, by omega, hcl.2, hbg⟩, hm2, (c1.trans (x2.chg _)).trans c3, fun k hk => ?_⟩
  · have := (R2.own.base_le k hk).1; omega
  · have := ((R2.cells z hz).1.base_le k hk).1; omega
  · rcases hk with rfl | hk | ⟨z, hz, hk⟩
    · exact .inl rfl
    · have := (R2.own.base_le k hk).1; exact .inr (by omega)
    · have := ((R2.cells z hz).1.base_le k hk).1; exact .inr (by omega)

theorem newPage_fn {h : Heap} (r c : Int) : FnS Try.prog 11 [.int .i64 r, .int .i64 c] h fun u h' => Ext h h' ∧ ∃ g vl zs, u = .pointer (some ⟨g, 0, none⟩) ∧ PgAt h' h.size g vl zs (clamp1 c) ∧ zs.map (·.2) = resizeLs [] (clamp1 r) (clamp1 c) := by
  refine FnS.go Try.func11 rfl rfl rfl rfl ?_
  refine build_strct rfl rfl rfl (cells := #[.slice none 0 0, .int .i64 0]) (by kernel_rfl) ?_
  intro g h1 n1
  have hp : PgAt h1 h.size g (.slice none 0 0) [] 0 := ⟨n1.blk, Own.nil _ _ _ _, (fun z hz => by cases hz), .nil, Nat.zero_le _, Nat.zero_le _, by rw [n1.is]; exact Nat.le_refl _⟩
  refine (resize_fn hp r c).mono ?_
  rintro u h2 ⟨vl, zs, p2, e2, c2, f2⟩
  refine ⟨n1.ext.then_new c2 fun k hk => by rw [hk, n1.is]; exact Nat.le_refl _, g, vl, zs, rfl, p2, e2⟩
end
end Go.Proofs.Ytobjkcmiicflmaa
