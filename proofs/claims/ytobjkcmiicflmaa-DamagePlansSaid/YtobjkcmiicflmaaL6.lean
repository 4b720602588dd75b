/- A page: each, Fill. -/
import Derived.Test.YtobjkcmiicflmaaL5
set_option maxRecDepth 100000
set_option linter.unusedVariables false
namespace Go.Proofs.Ytobjkcmiicflmaa
open Go Go.V

theorem one_ln {h : Heap} {b n : Nat} {v : Value} {l : List Cel} (ho : Own h b 44 3 v n (l.flatMap celC)) (s : Int) : ∀ u ∈ [v, Value.int .i64 s], u.oneCell' = true := fun u hu => by
  obtain ⟨A, c, rfl, _⟩ := ho.slice
  simp at hu
  rcases hu with rfl | rfl <;> rfl

section
variable {h h' : Heap} {base g : Nat} {vl : Value} {zs : List (Value × Ln)} {cols : Nat}
theorem PgAt.lines_ne (hp : PgAt h base g vl zs cols) {k : Nat} (hk : vl.ownBlock = some k) : k ≠ g ∧ ∀ z ∈ zs, ¬ z.1.ownBlock = some k := by
  obtain ⟨cur, hcur⟩ := hp.own.tag hk
  refine ⟨fun e => ?_, fun z hz e => ?_⟩
  · subst e; exact absurd (hcur.tag hp.var) (by decide)
  · obtain ⟨cur', hcur'⟩ := (hp.cells z hz).1.tag e; exact absurd (hcur.tag hcur') (by decide)

theorem set_mem {α : Type} {l : List α} {i : Nat} {y x : α} (h : x ∈ l.set i y) : x = y ∨ x ∈ l := by
  rcases List.mem_or_eq_of_mem_set h with h | h
  · exact .inr h
  · exact .inl h
theorem Apart.set {zs : List (Value × Ln)} (ha : Apart zs) (i : Nat) {y : Value × Ln} (hy : ∀ z ∈ zs, ∀ k, y.1.ownBlock = some k → ¬ z.1.ownBlock = some k) : Apart (zs.set i y) := by
  unfold Apart at *
  rw [List.pairwise_iff_getElem] at ha ⊢
  intro a b h1 h2 hab k ha1 hb1
  rw [List.length_set] at h1 h2
  rw [List.getElem_set] at ha1 hb1
  split at ha1
  · rw [if_neg (by omega)] at hb1
    exact hy _ (List.getElem_mem h2) k ha1 hb1
  · split at hb1
    · exact hy _ (List.getElem_mem h1) k hb1 ha1
    · exact ha a b h1 h2 hab k ha1 hb1

/-- A line of the page set anew, its cells fresh. -/
theorem PgAt.set (hp : PgAt h base g vl zs cols) {h1 h2 : Heap} (x1 : Ext h h1) {i : Nat} (hi : i < zs.length) {y : Value × Ln} (ho : OwnC h1 h.size y.1 y.2.cells) (hl : y.2.cells.length = cols) {gl c : Nat} (hv : vl = .slice (some ⟨gl, 0, none⟩) zs.length c)
    (q : Put h1 ⟨gl, i * 2, none⟩ (lnC y) h2) : PgAt h2 base g vl (zs.set i y) cols ∧ Chg (fun k => vl.ownBlock = some k) h h2 := by
  subst hv
  have hp1 := hp.ext x1
  have ht := hp.lines_ne (k := gl) rfl
  have hfo := hp.foot
  have hle := fun k (hk : y.1.ownBlock = some k) => ho.base_le k hk
  have hgl := (hp.foot gl (.inr (.inl rfl)))
  have o2 := hp1.own.over q (by simp only [lnC, List.length_cons, List.length_nil]; omega)
  have e2 : overL (zs.flatMap lnC) (i * 2) (lnC y) = (zs.set i y).flatMap lnC := by
    have : zs.set i y = overL zs i [y] := by
      apply List.ext_getElem?
      intro j
      rw [overL_get (by simp only [List.length_singleton]; omega)]
      simp only [List.length_singleton]
      by_cases h1 : j = i
      · subst h1; rw [if_pos (by omega), List.getElem?_set_self hi]; simp
      · rw [if_neg (by omega), List.getElem?_set_ne (by omega)]
    rw [this, overL_flat lnC_len]; simp
  rw [e2] at o2
  have hfar : ∀ {b : Nat} {v : Value} {l : List Cel}, OwnC h1 b v l → OwnC h2 b v l := fun o => o.chg q.chg fun k hk e => by
    obtain ⟨cur, hcur⟩ := o.tag hk
    obtain ⟨cur', hcur'⟩ := hp1.own.tag (g := gl) rfl
    have e : k = gl := e
    subst e
    exact absurd (hcur.tag hcur') (by decide)
  refine ⟨⟨q.far hp1.var ht.1.symm, by rw [List.length_set]; exact o2, fun z hz => ?_, hp.apart.set i fun z hz k h3 h4 => ?_, by rw [List.length_set]; exact hp.rows, hp.cols, hp.base⟩, ?_⟩
  · rcases set_mem hz with rfl | hz
    · have := hp.foot g (.inl rfl)
      exact ⟨Own.mono (hfar ho) (by omega), hl⟩
    · exact ⟨hfar (hp1.cells z hz).1, (hp.cells z hz).2⟩
  · have := hle k h3
    have := hp.foot k (.inr (.inr ⟨z, hz, h4⟩))
    omega
  · exact (x1.chg _).trans (q.chg.mono fun k _ hk => by rw [hk]; rfl)

/-- Some rows changed. -/
def eachLs (F : Ln → Ln) (a b : Int) (ls : List Ln) : List Ln := ls.mapIdx fun i l => if a ≤ (i : Int) ∧ (i : Int) < b then F l else l
theorem eachLs_get (F : Ln → Ln) (a b : Int) (ls : List Ln) (i : Nat) : (eachLs F a b ls)[i]? = (ls[i]?).map fun l => if a ≤ (i : Int) ∧ (i : Int) < b then F l else l := by simp [eachLs, List.getElem?_mapIdx]
theorem eachLs_none (F : Ln → Ln) (a b : Int) (ls : List Ln) (h : b ≤ a) : eachLs F a b ls = ls := by
  apply List.ext_getElem?
  intro i
  rw [eachLs_get]
  cases ls[i]? with
  | none => rfl
  | some l => simp only [Option.map_some]; rw [if_neg (by omega)]
theorem eachLs_step (F : Ln → Ln) (a : Int) (k : Nat) (ls : List Ln) (hk : a ≤ (k : Int)) {l : Ln} (hl : ls[k]? = some l) : (eachLs F a (k : Int) ls).set k (F l) = eachLs F a ((k + 1 : Nat) : Int) ls := by
  have hlt := (List.getElem?_eq_some_iff.1 hl).1
  apply List.ext_getElem?
  intro i
  rw [eachLs_get]
  by_cases h1 : i = k
  · subst h1
    rw [List.getElem?_set_self (by simp [eachLs]; exact hlt), hl]
    simp only [Option.map_some]
    rw [if_pos (by omega)]
  · rw [List.getElem?_set_ne (by omega), eachLs_get]
    cases ls[i]? with
    | none => rfl
    | some l =>
      simp only [Option.map_some]
      congr 1
      by_cases h2 : a ≤ (i : Int) ∧ (i : Int) < k
      · rw [if_pos h2, if_pos (by omega)]
      · rw [if_neg h2, if_neg (by omega)]

theorem meet_page (b : Bx) (rows cols : Nat) : (0 ≤ (meet b (pageBx rows cols)).t ∧ (meet b (pageBx rows cols)).b ≤ rows ∧ 0 ≤ (meet b (pageBx rows cols)).l ∧ (meet b (pageBx rows cols)).r ≤ cols) := by
  unfold meet
  split
  · simp
  · simp only [meet0, pageBx]; omega

theorem pageEach_fn (hp : PgAt h base g vl zs cols) (b : Bx) {fno : FuncId} {first cap : Array Value} {F : Int → Int → Ln → Ln}
    (hF : ∀ (u : Value) (l : Ln) (lo hi : Int) (h : Heap), LnV h u l → l.cells.length ≤ 1000000 → 0 ≤ lo → lo ≤ 9223372036854775807 → hi ≤ 500 → FnS Try.prog fno (first.toList ++ [u, .int .i64 lo, .int .i64 hi] ++ cap.toList) h fun r h' => Ext h h' ∧ OwnL h' h.size r (F lo hi l))
    (hlen : ∀ lo hi l, (F lo hi l).cells.length = l.cells.length) (hb : b.l ≤ 9223372036854775807) :
    FnS Try.prog 24 [.pointer (some ⟨g, 0, none⟩), .agg (bxC b).toArray, .func (.func fno) first cap] h fun _ h' => ∃ zs', PgAt h' base g vl zs' cols ∧
      zs'.map (·.2) = eachLs (F (meet b (pageBx zs.length cols)).l (meet b (pageBx zs.length cols)).r) (meet b (pageBx zs.length cols)).t (meet b (pageBx zs.length cols)).b (zs.map (·.2)) ∧
      Chg (fun k => vl.ownBlock = some k) h h' ∧ ∀ z ∈ zs', z ∈ zs ∨ ∀ k, z.1.ownBlock = some k → h.size ≤ k := by
  obtain ⟨m, hm⟩ : ∃ m, meet b (pageBx zs.length cols) = m := ⟨_, rfl⟩
  have hmp := meet_page b zs.length cols
  have hml : m.l ≤ 9223372036854775807 := by rw [← hm]; unfold meet; split <;> simp only [meet0, pageBx] <;> omega
  have hrows := hp.rows
  have hcols := hp.cols
  rw [hm] at hmp ⊢
  refine FnS.go Try.func24 rfl rfl rfl rfl ?_
  intro g4 h4 n4
  refine ⟨_, rfl, n4.row, ?_⟩
  refine (on_fn (hp.ext n4.ext) b).mono ?_
  rintro u h5 ⟨rfl, x5⟩
  rw [hm]
  have b4 := n4.blk.ext x5
  refine ⟨rfl, b4.can rfl, fun h6 p6 => ?_⟩
  have b6 := p6.all b4 rfl
  have x6 : Ext h h6 := p6.ext (n4.ext.trans x5) (by rw [n4.is]; exact Nat.le_refl _)
  have hg4 := n4.is
  have hmt : m.b ≤ m.t ∨ m.t ≤ m.b := by omega
  obtain ⟨kt, hkt⟩ : ∃ kt : Nat, m.t = kt := ⟨m.t.toNat, by omega⟩
  refine ⟨by decide, .int .i64 (kt : Int), by rw [← hkt]; exact b6.cell 0, ?_⟩
  refine St.loop (X := Nat × List (Value × Ln)) (fun z => [(0, .pointer (some ⟨g, 0, none⟩)), (2, .func (.func fno) first cap), (4, .pointer (some ⟨g4, 0, none⟩)), (6, .int .i64 (z.1 : Int))])
    (fun z h' => PgAt h' base g vl z.2 cols ∧ z.2.length = zs.length ∧ z.2.map (·.2) = eachLs (F m.l m.r) m.t (z.1 : Int) (zs.map (·.2)) ∧ m.t ≤ (z.1 : Int) ∧ (z.1 : Int) ≤ max m.t m.b ∧
      Chg (fun k => vl.ownBlock = some k) h h' ∧ (∀ y ∈ z.2, y ∈ zs ∨ ∀ k, y.1.ownBlock = some k → h.size ≤ k) ∧ Blk h' g4 41 (bxC m).toArray) (fun z => (m.b - z.1).toNat) (kt, zs)
    ⟨rfl, rfl, rfl, rfl, trivial⟩ ⟨hp.ext x6, rfl, by rw [eachLs_none _ _ _ _ (by rw [hkt]; exact Int.le_refl _)], by simp only; omega, by simp only; omega, x6.chg _, fun y hy => .inl hy, b6⟩ ?_
  rintro ⟨k, ys⟩ h7 ⟨p7, hl7, hy7, hk1, hk2, c7, hf7, b7⟩
  simp only at p7 hl7 hy7 hk1 hk2 c7 hf7 b7 ⊢
  refine ⟨by decide, _, b7.cell 2, rfl, fun h8 => ?_, fun h8 => ?_⟩
  rotate_left
  · refine ⟨ys, p7, ?_, c7, hf7⟩
    rw [hy7]
    by_cases h9 : m.b ≤ m.t
    · rw [eachLs_none _ _ _ _ (by omega), eachLs_none _ _ _ _ h9]
    · rw [show (k : Int) = m.b by omega]
  have hkl : k < ys.length := by omega
  have hz : ys[k]? = some ys[k] := List.getElem?_eq_getElem hkl
  generalize ys[k] = z at hz
  obtain ⟨gl, c, rfl, hrow, hlt, hln⟩ := p7.line hz
  have hzm := List.mem_of_getElem? hz
  have hzc := (p7.cells z hzm).2
  refine St.drawn (.old h7.size [35]) (by kernel_rfl) ?_
  have hadd : (⟨gl, 0, none⟩ : Addr).add (k * 2) = ⟨gl, k * 2, none⟩ := by rw [add_plain, Nat.zero_add]
  refine ⟨by decide, p7.var.lt, _, p7.var.cell 0, by decide, p7.var.lt, _, p7.var.cell 0, ⟨gl, 0, none⟩, k, rfl, rfl, hkl, by rw [add_block]; exact hlt, _, rfl, by rw [hadd]; exact hrow, by decide, b7.lt, _, b7.cell 1, by decide, b7.lt, _, b7.cell 3, ?_⟩
  refine (hF _ z.2 m.l m.r h7 hln (by omega) hmp.2.2.1 hml (by omega)).mono ?_
  rintro r h9 ⟨x9, v9, rfl, o9⟩
  refine ⟨x9.2, ⟨gl, 0, none⟩, k, rfl, rfl, hkl, ?_⟩
  rw [hadd]
  have o9' := o9
  obtain ⟨A9, c9, rfl, _⟩ := o9.slice
  refine ⟨rfl, (show Go.V.Can h9 ⟨gl, k * 2, none⟩ 2 from (p7.own.ext x9).can (by omega)), fun h10 p10 => ?_⟩
  obtain ⟨p11, c11⟩ := p7.set x9 (y := (.slice A9 (F m.l m.r z.2).cells.length c9, F m.l m.r z.2)) hkl o9' (by rw [hlen]; exact hzc) rfl p10
  have hsz := c7.1
  refine ⟨rfl, ((k + 1 : Nat) : Int), by rw [wrap_i64 (by omega) (by omega)]; omega, ?_⟩
  refine ⟨(k + 1, _), ⟨rfl, rfl, rfl, rfl, trivial⟩, ⟨p11, by simp only [List.length_set]; exact hl7, ?_, by simp only; omega, by simp only; omega, c7.trans c11, fun y hy => ?_, ?_⟩, by simp only; omega⟩
  · simp only
    rw [List.map_set, hy7]
    refine eachLs_step _ _ _ _ hk1 ?_
    have h11 := congrArg (fun l => l[k]?) hy7
    simp only [List.getElem?_map, hz, Option.map_some] at h11
    rw [eachLs_get] at h11
    cases h12 : (zs.map (·.2))[k]? with
    | none => rw [h12] at h11; cases h11
    | some l =>
      rw [h12] at h11
      simp only [Option.map_some] at h11
      rw [if_neg (by omega)] at h11
      exact h11.symm
  · rcases set_mem hy with rfl | hy
    · exact .inr fun k hk => by have := (o9'.base_le k hk).1; omega
    · exact hf7 y hy
  · refine (b7.ext x9).chg p10.chg fun e => ?_
    obtain ⟨cur', hcur'⟩ := (p7.own.ext x9).tag (g := gl) rfl
    have e : g4 = gl := e
    subst e
    exact absurd ((b7.ext x9).tag hcur') (by decide)
end
end Go.Proofs.Ytobjkcmiicflmaa
