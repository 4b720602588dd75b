/- The law, walked. -/
import Derived.Test.YtobjkcmiicflmaaC18
set_option maxRecDepth 100000
set_option linter.unusedVariables false
namespace Go.Proofs.Ytobjkcmiicflmaa
open Go Go.V Go.V.Heaps

theorem flat_pcS (l : List Pc) : l.flatMap pcS = (l.map spOf).flatMap spC := by
  induction l with
  | nil => rfl
  | cons x r ih => simp [List.flatMap_cons, ih, pcS]
theorem Own.spansP {h : Heap} {base e : Nat} {v : Value} {l : List Pc} (ho : Own h base e 3 v l.length (l.flatMap pcS)) : SpansV h v (l.map spOf) := by
  rw [flat_pcS] at ho
  exact Own.spans ho (by simp)

theorem RefPlan.facts {b : Int} {l t r : List Pc} (h : RefPlan b l t r) (hok : ∀ x ∈ l, OkPc x) :
    (t ≠ [] → sumW (t.map spOf) ≤ b) ∧ (∀ x ∈ r, b - sumW (t.map spOf) < wd x) ∧ t.length + r.length = l.length ∧ (∀ x ∈ t, OkPc x) ∧ (∀ x ∈ r, OkPc x) := by
  induction h with
  | stop hs => exact ⟨fun h => absurd rfl h, fun x hx => by have := hs x hx; simp [sumW]; omega, by simp, (fun x hx => by cases hx), hok⟩
  | @take b p s t r x hx hb hr ih =>
    obtain ⟨i1, i2, i3, i4, i5⟩ := ih fun y hy => hok y (by
      rcases List.mem_append.1 hy with h | h
      · exact List.mem_append_left _ h
      · exact List.mem_append_right _ (List.mem_cons_of_mem _ h))
    have e : sumW ((x :: t).map spOf) = wd x + sumW (t.map spOf) := by simp [sumW, widS_spOf]
    have okx := hok x (by simp)
    refine ⟨fun _ => ?_, fun y hy => by have := i2 y hy; rw [e]; omega, by simp only [List.length_append, List.length_cons] at i3 ⊢; omega, fun y hy => ?_, i5⟩
    · rw [e]
      cases t with
      | nil => simp [sumW]; omega
      | cons y t => have := i1 (by simp); omega
    · rcases List.mem_cons.1 hy with rfl | h
      · exact okx
      · exact i4 y h

theorem plansLaw_fn (haw : ∀ h : Heap, FnS Try.prog 4 [] h fun u h' => u = .bool true ∧ Ext h h') {h : Heap} {v : Value} {ls : List Sp} {b : Int} (hv : SpansV h v ls) (hb : -9223372036854775808 ≤ b ∧ b ≤ 9223372036854775807) :
    FnS Try.prog 3 [v, .int .i64 b] h fun u h' => u = .bool true ∧ Ext h h' := by
  refine FnS.intro Try.func3 rfl rfl rfl ?_
  refine Sat.seq ?_
  refine Sat.region rfl ?_
  refine Sat.seq ?_
  refine Sat.seq ?_
  refine Sat.region rfl ?_
  refine (haw h).mono ?_
  rintro u h1 ⟨rfl, x1⟩
  refine Sat.cond ?_
  refine Sat.skip ?_
  have hv1 := hv.ext x1
  obtain ⟨fs, hfs⟩ : ∃ fs, fs = ls.take 40 := ⟨_, rfl⟩
  have f40 : fs.length ≤ 40 := by rw [hfs, List.length_take]; omega
  refine Sat.cut (X := Unit) (fun _ => [(0, v), (1, .int .i64 b)]) (fun _ h' => Ext h h' ∧ ∀ x ∈ fs, OkSp x) ?_ ?_
  · refine Sat.seq ?_
    refine Sat.region rfl ?_
    refine (fewS_fn hv1).mono ?_
    rintro u h2 ⟨hu, rfl⟩
    rw [← hfs] at hu
    obtain ⟨A, c, rfl, hc, hr⟩ := hu
    refine Sat.block ?_
    refine Sat.loop (X := Nat) (fun i => [(0, v), (1, .int .i64 b), (18, .slice A fs.length c), (19, .int .i64 (fs.length : Int)), (20, .int .i64 (i : Int))])
      (fun i h' => Ext h2 h' ∧ i ≤ fs.length ∧ ∀ x ∈ fs.take i, OkSp x) (fun i => fs.length - i) 0
      ⟨rfl, rfl, rfl, rfl, rfl, trivial⟩ ⟨Ext.refl _, Nat.zero_le _, fun x hx => by simp at hx⟩ ?_
    rintro i h3 ⟨x3, hi, hoki⟩
    refine Sat.seq ?_
    refine Sat.region rfl ?_
    refine ⟨rfl, fun h4 => ?_, fun h4 => ?_⟩
    rotate_left
    · refine Sat.seq ?_
      refine Sat.cond ?_
      refine Sat.exit ?_
      have : i = fs.length := by omega
      subst this
      rw [List.take_length] at hoki
      exact ⟨(), ⟨rfl, rfl, trivial⟩, x1.trans x3, hoki⟩
    have hil : i < fs.length := by omega
    refine Sat.seq ?_
    refine Sat.cond ?_
    refine Sat.skip ?_
    obtain ⟨p, rfl, hp⟩ : ∃ p, A = some p ∧ ∀ (k : Nat) x, fs[k]? = some x → Row h2 (p.add (k * 3)) (spC x) := by
      rcases hr with h0 | h0
      · rw [h0] at hil; simp at hil
      · exact h0
    have hx := (hp i _ (List.getElem?_eq_getElem hil)).ext x3
    have htk : fs.take (i + 1) = fs.take i ++ [fs[i]] := List.take_succ_eq_append_getElem hil
    generalize fs[i] = x at *
    refine Sat.seq ?_
    refine Sat.block ?_
    refine Sat.seq ?_
    refine Sat.region rfl ?_
    refine ⟨p, i, rfl, rfl, hil, _, rfl, hx, ?_⟩
    obtain ⟨hD, eD⟩ : ∃ hD, hD = h3.push (.cells #[.int .i64 0, .int .i64 0, .int .i64 0] 26) := ⟨_, rfl⟩
    have xD : Ext h3 hD := by rw [eD]; exact Ext.push h3 _
    have bD : Blk hD h3.size 26 #[.int .i64 0, .int .i64 0, .int .i64 0] := by rw [eD]; exact Blk.new h3 _ _
    refine ⟨rfl, one_sp _, (Blk.new h3 26 #[.int .i64 0, .int .i64 0, .int .i64 0]).okAt (by decide), ?_⟩
    obtain ⟨hE, eE⟩ : ∃ hE, hE = setRow hD ⟨h3.size, 0, none⟩ (spC x) 0 := ⟨_, rfl⟩
    have xE : Ext h3 hE := by rw [eE]; exact setRow_new xD (Nat.le_refl _) _ _
    have bE : Blk hE h3.size 26 (spC x).toArray := by rw [eE]; exact bD.whole rfl
    refine Sat.at (h' := hE) (by rw [eE, eD]; rfl) ?_
    have xhE := x1.trans (x3.trans xE)
    refine Sat.seq ?_
    refine Sat.region rfl ?_
    refine ⟨by decide, _, bE.cell 1, rfl, fun h5 => ?_, fun h5 => ?_⟩
    · refine Sat.cond ?_
      refine Sat.seq ?_
      refine Sat.region rfl ?_
      refine Sat.ret ?_
      exact ⟨rfl, xhE⟩
    refine ⟨by decide, _, bE.cell 2, rfl, fun h6 => ?_, fun h6 => ?_⟩
    · refine Sat.cond ?_
      refine Sat.seq ?_
      refine Sat.region rfl ?_
      refine Sat.ret ?_
      exact ⟨rfl, xhE⟩
    refine Sat.cond ?_
    refine Sat.skip ?_
    refine Sat.region rfl ?_
    refine ⟨rfl, ((i + 1 : Nat) : Int), by rw [wrap_i64 (by omega) (by omega)]; omega, ?_⟩
    refine ⟨i + 1, ⟨rfl, rfl, rfl, rfl, rfl, trivial⟩, ⟨x3.trans xE, hil, fun y hy => ?_⟩, by omega⟩
    rw [htk] at hy
    rcases List.mem_append.1 hy with h7 | h7
    · exact hoki y h7
    · rw [List.mem_singleton.1 h7]; exact ⟨h5, h6⟩
  rintro _ h2 ⟨x2, hok⟩
  have hv2 := hv.ext x2
  refine Sat.seq ?_
  refine Sat.region rfl ?_
  refine (ownS_fn hv2).mono ?_
  rintro v7 h3 ⟨x3, o7⟩
  rw [← hfs] at o7
  have s7 := Own.spans o7 rfl
  refine Sat.seq ?_
  refine Sat.region rfl ?_
  refine (plan_fn s7 f40 hok hb).mono ?_
  rintro u h4 ⟨x4, v8, v9, t, r, rfl, hp1, o8, o9⟩
  have s8 := Own.spansP o8
  have s9 := Own.spansP o9
  have hv4 := hv2.ext (x3.trans x4)
  refine Sat.seq ?_
  refine Sat.region rfl ?_
  refine (fewS_fn hv4).mono ?_
  rintro v43 h5 ⟨s43, rfl⟩
  rw [← hfs] at s43
  have hpok := pcs_ok hok
  refine (refPlan_fn (l := pcs fs) (by rw [pcs_map]; exact s43) (by rw [pcs_length]; exact f40) hpok (pcs_sorted fs) hb).mono ?_
  rintro u h6 ⟨x6, v10, v11, t', r', rfl, hp2, o10, o11⟩
  obtain ⟨rfl, rfl⟩ := hp1.unique hp2 (pcs_keys fs).nodup
  obtain ⟨k1, k2, k3, k4, k5⟩ := hp1.facts hpok
  rw [pcs_length] at k3
  have s10 := Own.spansP o10
  have s11 := Own.spansP o11
  refine Sat.seq ?_
  refine Sat.seq ?_
  refine Sat.region rfl ?_
  have tl : (t.map spOf).length = t.length := by simp
  have rl : (r.map spOf).length = r.length := by simp
  refine (are_fn (s8.ext x6) s10 (by omega)).mono ?_
  rintro u h7 ⟨rfl, rfl⟩
  refine (are_fn (s9.ext x6) s11 (by omega)).mono ?_
  rintro u h8 ⟨rfl, rfl⟩
  refine (fewS_fn (hv4.ext x6)).mono ?_
  rintro u h9 ⟨s61, rfl⟩
  rw [← hfs] at s61
  refine (are_fn (s7.ext (x4.trans x6)) s61 (by omega)).mono ?_
  rintro u h10 ⟨rfl, rfl⟩
  refine Sat.cond ?_
  refine Sat.skip ?_
  have okt : ∀ x ∈ t.map spOf, OkSp x := fun x hx => by obtain ⟨y, hy, rfl⟩ := List.mem_map.1 hx; exact k4 y hy
  have okr : ∀ x ∈ r.map spOf, OkSp x := fun x hx => by obtain ⟨y, hy, rfl⟩ := List.mem_map.1 hx; exact k5 y hy
  refine Sat.seq ?_
  refine Sat.region rfl ?_
  refine (widthS_fn (s8.ext x6) (by omega) okt).mono ?_
  rintro u h11 ⟨rfl, x11⟩
  have hsum := sumW_bound okt
  rw [tl] at hsum
  have xa : Ext h h11 := x2.trans (x3.trans (x4.trans (x6.trans x11)))
  obtain ⟨A8, c8, rfl, hc8, _⟩ := s8
  obtain ⟨A9, c9, rfl, hc9, hr9⟩ := s9
  obtain ⟨A7, c7, rfl, hc7, _⟩ := s7
  rw [tl, rl] at *
  refine Sat.cut (X := Unit) (fun _ => [(1, .int .i64 b), (7, .slice A7 fs.length c7), (8, .slice A8 t.length c8), (9, .slice A9 r.length c9), (12, .int .i64 (sumW (t.map spOf)))]) (fun _ h' => h' = h11) ?_ ?_
  · refine Sat.seq ?_
    refine Sat.region rfl ?_
    refine ⟨rfl, fun h12 => ?_, fun h12 => ?_⟩
    · have := k1 (fun e => by rw [e] at h12; simp at h12)
      refine ⟨rfl, fun h13 => absurd h13 (by omega), fun _ => ?_⟩
      refine Sat.cond ?_
      refine Sat.skip ?_
      exact ⟨(), ⟨rfl, rfl, rfl, rfl, rfl, trivial⟩, rfl⟩
    · refine Sat.cond ?_
      refine Sat.skip ?_
      exact ⟨(), ⟨rfl, rfl, rfl, rfl, rfl, trivial⟩, rfl⟩
  rintro _ h12 rfl
  have hbn : -9223372036854775808 ≤ b - sumW (t.map spOf) ∧ b - sumW (t.map spOf) ≤ 9223372036854775807 := by
    by_cases ht : t = []
    · subst ht; simp [sumW]; omega
    · have := k1 ht; omega
  refine Sat.cut (X := Unit) (fun _ => [(7, .slice A7 fs.length c7), (8, .slice A8 t.length c8), (9, .slice A9 r.length c9)]) (fun _ h' => Ext h h') ?_ ?_
  · refine Sat.seq ?_
    refine Sat.region rfl ?_
    refine Sat.block ?_
    refine Sat.loop (X := Nat) (fun i => [(1, .int .i64 b), (7, .slice A7 fs.length c7), (8, .slice A8 t.length c8), (9, .slice A9 r.length c9), (12, .int .i64 (sumW (t.map spOf))), (75, .slice A9 r.length c9), (76, .int .i64 (r.length : Int)), (77, .int .i64 (i : Int))])
      (fun i h' => Ext h12 h' ∧ i ≤ r.length) (fun i => r.length - i) 0
      ⟨rfl, rfl, rfl, rfl, rfl, rfl, rfl, rfl, trivial⟩ ⟨Ext.refl _, Nat.zero_le _⟩ ?_
    rintro i h13 ⟨x13, hi⟩
    refine Sat.seq ?_
    refine Sat.region rfl ?_
    refine ⟨rfl, fun h14 => ?_, fun h14 => ?_⟩
    rotate_left
    · refine Sat.seq ?_
      refine Sat.cond ?_
      refine Sat.exit ?_
      exact ⟨(), ⟨rfl, rfl, rfl, trivial⟩, xa.trans x13⟩
    have hil : i < r.length := by omega
    refine Sat.seq ?_
    refine Sat.cond ?_
    refine Sat.skip ?_
    rcases hr9 with h0 | ⟨p, rfl, hp⟩
    · have := congrArg List.length h0
      simp only [List.length_map, List.length_nil] at this
      rw [this] at hil
      cases hil
    have hx := (hp i (spOf r[i]) (by rw [List.getElem?_map, List.getElem?_eq_getElem hil]; rfl)).ext (x6.trans (x11.trans x13))
    have hfit := k2 r[i] (List.getElem_mem hil)
    have okx := k5 r[i] (List.getElem_mem hil)
    generalize r[i] = x at *
    refine Sat.seq ?_
    refine Sat.block ?_
    refine Sat.seq ?_
    refine Sat.region rfl ?_
    refine ⟨p, i, rfl, rfl, hil, _, rfl, hx, ?_⟩
    obtain ⟨hD, eD⟩ : ∃ hD, hD = h13.push (.cells #[.int .i64 0, .int .i64 0, .int .i64 0] 35) := ⟨_, rfl⟩
    have xD : Ext h13 hD := by rw [eD]; exact Ext.push h13 _
    have bD : Blk hD h13.size 35 #[.int .i64 0, .int .i64 0, .int .i64 0] := by rw [eD]; exact Blk.new h13 _ _
    refine ⟨rfl, one_sp _, (Blk.new h13 35 #[.int .i64 0, .int .i64 0, .int .i64 0]).okAt (by decide), ?_⟩
    obtain ⟨hE, eE⟩ : ∃ hE, hE = setRow hD ⟨h13.size, 0, none⟩ (pcS x) 0 := ⟨_, rfl⟩
    have xE : Ext h13 hE := by rw [eE]; exact setRow_new xD (Nat.le_refl _) _ _
    have bE : Blk hE h13.size 35 (pcS x).toArray := by rw [eE]; exact bD.whole rfl
    refine Sat.at (h' := hE) (by rw [eE, eD]; rfl) ?_
    refine Sat.seq ?_
    refine Sat.region rfl ?_
    refine ⟨_, rfl, bE.row, ?_⟩
    refine lit_one i27 (x := .agg (pcS x).toArray) rfl ?_
    obtain ⟨hF, eF⟩ : ∃ hF, hF = hE.push (.cells (pcS x).toArray 35) := ⟨_, rfl⟩
    have xF : Ext hE hF := by rw [eF]; exact Ext.push hE _
    have bF : Blk hF hE.size 35 (pcS x).toArray := by rw [eF]; exact Blk.new hE _ _
    rw [show hE.push (.cells (Value.agg (pcS x).toArray).cells 35) = hF from eF.symm]
    have s1 : SpansV hF (.slice (some ⟨hE.size, 0, none⟩) 1 1) [spOf x] := ⟨_, 1, rfl, Nat.le_refl _, .inr ⟨_, rfl, fun k y hk => by
      cases k with
      | zero => injection hk with hk; subst hk; exact bF.row
      | succ k => cases hk⟩⟩
    refine (widthS_fn s1 (by simp) (fun y hy => by rw [List.mem_singleton.1 hy]; exact okx)).mono ?_
    rintro u h15 ⟨rfl, x15⟩
    have e1 : sumW [spOf x] = wd x := by simp [sumW, widS_spOf]
    refine ⟨rfl, b - sumW (t.map spOf), wrap_i64 hbn.1 hbn.2, ?_⟩
    refine ⟨rfl, fun h16 => absurd h16 (by omega), fun h16 => ?_⟩
    refine Sat.cond ?_
    refine Sat.skip ?_
    refine Sat.region rfl ?_
    refine ⟨rfl, ((i + 1 : Nat) : Int), by rw [wrap_i64 (by omega) (by omega)]; omega, ?_⟩
    exact ⟨i + 1, ⟨rfl, rfl, rfl, rfl, rfl, rfl, rfl, rfl, trivial⟩, ⟨x13.trans (xE.trans (xF.trans x15)), hil⟩, by omega⟩
  rintro _ h13 x13
  refine Sat.seq ?_
  refine Sat.region rfl ?_
  refine ⟨rfl, ((t.length + r.length : Nat) : Int), by rw [wrap_i64 (by omega) (by omega)]; omega, ?_⟩
  refine ⟨rfl, fun h14 => ?_, fun h14 => absurd (show ((t.length + r.length : Nat) : Int) = (fs.length : Int) by omega) h14⟩
  refine Sat.ret ?_
  exact ⟨rfl, x13⟩
end Go.Proofs.Ytobjkcmiicflmaa
