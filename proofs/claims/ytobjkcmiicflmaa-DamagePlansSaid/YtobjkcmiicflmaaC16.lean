/- The reference's Plan: the walk's inner loop. -/
import Derived.Test.YtobjkcmiicflmaaC15
set_option maxRecDepth 100000
set_option linter.unusedVariables false
namespace Go.Proofs.Ytobjkcmiicflmaa
open Go Go.V Go.V.Heaps

theorem i22 : slInfo Try.prog 22 = some (26, 3, .agg #[.int .i64 0, .int .i64 0, .int .i64 0], 24) := by kernel_rfl
def pcS (x : Pc) : List Value := spC (spOf x)
theorem pcS_len (x : Pc) : (pcS x).length = 3 := rfl
theorem one_pcS (x : Pc) : ∀ u ∈ pcS x, u.oneCell' = true := one_sp (spOf x)
/-- Sorted by place. -/
def ByAt (l : List Pc) : Prop := ∀ i j, i < j → j < l.length → (at_ l i).at_ < (at_ l j).at_
theorem ByAt.of {l : List Pc} (h : l.Pairwise fun a b => a.at_ < b.at_) : ByAt l := fun i j hij hj => by
  have := List.pairwise_iff_getElem.1 h i j (by omega) hj hij
  rwa [← at_some (List.getElem?_eq_getElem (show i < l.length by omega)), ← at_some (List.getElem?_eq_getElem hj)] at this

theorem refPlan_fn {h : Heap} {v : Value} {l : List Pc} {b : Int} (hv : SpansV h v (l.map spOf)) (hn : l.length ≤ 40) (hok : ∀ x ∈ l, OkPc x) (hat : l.Pairwise fun a b => a.at_ < b.at_) (hb : -9223372036854775808 ≤ b ∧ b ≤ 9223372036854775807) :
    FnS Try.prog 8 [v, .int .i64 b] h fun u h' => Ext h h' ∧ ∃ vt vr t r, u = .tuple #[vt, vr] ∧ RefPlan b l t r ∧ Own h' h.size 26 3 vt t.length (t.flatMap pcS) ∧ Own h' h.size 26 3 vr r.length (r.flatMap pcS) := by
  obtain ⟨A, c, rfl, hc, hr⟩ := hv
  refine FnS.intro Try.func8 rfl rfl rfl ?_
  refine Sat.seq ?_
  refine Sat.region rfl ?_
  refine Sat.seq ?_
  refine Sat.region rfl ?_
  refine lit_zero i22 ?_
  have x0 := Ext.push h (.cells #[] 26)
  have o0 : Own (h.push (.cells #[] 26)) h.size 26 3 (.slice (some ⟨h.size, 0, none⟩) 0 0) 0 [] := ⟨rfl, .inr ⟨h.size, 0, #[], rfl, Nat.le_refl _, Blk.new h 26 #[], Nat.le_refl _, Nat.zero_le _, rfl, rfl⟩⟩
  have hlm : (l.map spOf).length = l.length := by simp
  have hone : ∀ u ∈ l.flatMap pcS, u.oneCell' = true := fun u hu => by
    obtain ⟨x, _, hx⟩ := List.mem_flatMap.1 hu
    exact one_pcS x u hx
  refine append_to i22 o0 (news := l.flatMap pcS) (by rw [hlm]; exact flat_length pcS_len l) ?_ hone (by omega) (by simp) ?_
  · rcases hr with h0 | ⟨p, hp, hi⟩
    · exact .inl (by rw [h0]; rfl)
    · refine .inr ⟨p, hp, (Row.of_elems pcS_len (by decide) fun k x hk => hi k (spOf x) (by rw [List.getElem?_map, hk]; rfl)).ext x0⟩
  intro v6 h1 o6 c6 _
  have x1 : Ext h h1 := x0.then_new c6 fun i hi => by injection hi with hi; exact Nat.le_of_eq hi
  rw [Nat.zero_add, List.nil_append, hlm] at o6
  refine Sat.seq ?_
  refine Sat.region rfl ?_
  refine Sat.block ?_
  refine Sat.loop (X := Int × List Pc × List Pc × Value × Value) (fun x => [(1, .int .i64 x.1), (6, x.2.2.2.1), (7, x.2.2.2.2)])
    (fun x h' => Ext h h' ∧ Own h' h.size 26 3 x.2.2.2.1 x.2.1.length (x.2.1.flatMap pcS) ∧ Own h' h.size 26 3 x.2.2.2.2 x.2.2.1.length (x.2.2.1.flatMap pcS) ∧ x.2.1.Sublist l ∧ x.2.2.1.length + x.2.1.length = l.length ∧
      (-9223372036854775808 ≤ x.1 ∧ x.1 ≤ 9223372036854775807) ∧ (∀ t r, RefPlan x.1 x.2.1 t r → RefPlan b l (x.2.2.1 ++ t) r) ∧ ∀ g, x.2.2.2.1.ownBlock = some g → ¬ x.2.2.2.2.ownBlock = some g) (fun x => x.2.1.length) (b, l, [], v6, .slice none 0 0)
    ⟨rfl, rfl, rfl, trivial⟩ ⟨x1, o6, Own.nil _ _ _ _, List.Sublist.refl l, by simp, hb, fun t r h => h, fun g _ e => by cases e⟩ ?_
  rintro ⟨b1, l1, t1, w6, w7⟩ h2 ⟨x2, q6, q7, hsub, hlen, hb1, hK, hap⟩
  simp only at x2 q6 q7 hsub hlen hb1 hK hap ⊢
  have hl40 : l1.length ≤ 40 := by omega
  have hok1 : ∀ x ∈ l1, OkPc x := fun x hx => hok x (hsub.subset hx)
  have hat1 : ByAt l1 := ByAt.of (hat.sublist hsub)
  obtain ⟨A6, c6', rfl, hc6⟩ := q6.slice
  refine Sat.block ?_
  refine Sat.seq ?_
  refine Sat.region rfl ?_
  refine Sat.cut (X := Option Nat) (fun o => [(1, .int .i64 b1), (6, .slice A6 l1.length c6'), (7, w7), (8, bestO o)]) (fun o h' => Ext h2 h' ∧ BestR l1 b1 l1.length o) ?_ ?_
  · refine Sat.seq ?_
    refine Sat.region rfl ?_
    refine Sat.block ?_
    refine Sat.loop (X := Nat × Option Nat) (fun x => [(1, .int .i64 b1), (6, .slice A6 l1.length c6'), (7, w7), (8, bestO x.2), (9, .int .i64 (x.1 : Int))]) (fun x h' => Ext h2 h' ∧ x.1 ≤ l1.length ∧ BestR l1 b1 x.1 x.2) (fun x => l1.length - x.1) (0, none)
      ⟨rfl, rfl, rfl, rfl, rfl, trivial⟩ ⟨Ext.refl _, Nat.zero_le _, fun j hj => by simp only at hj; omega⟩ ?_
    rintro ⟨i, o⟩ h3 ⟨x3, hi, hbest⟩
    simp only at x3 hi hbest ⊢
    refine Sat.seq ?_
    refine Sat.seq ?_
    refine Sat.region rfl ?_
    refine ⟨rfl, fun h4 => ?_, fun h4 => ?_⟩
    rotate_left
    · refine Sat.cond ?_
      refine Sat.exit ?_
      have : i = l1.length := by omega
      subst this
      exact ⟨o, ⟨rfl, rfl, rfl, rfl, trivial⟩, x3, hbest⟩
    have hil : i < l1.length := by omega
    refine Sat.cond ?_
    refine Sat.skip ?_
    refine Sat.cut (X := Option Nat) (fun o => [(1, .int .i64 b1), (6, .slice A6 l1.length c6'), (7, w7), (8, bestO o), (9, .int .i64 (i : Int))]) (fun o h' => Ext h2 h' ∧ BestR l1 b1 (i + 1) o) ?_ ?_
    rotate_left
    · rintro o' h5 ⟨x5, hb5⟩
      refine Sat.region rfl ?_
      refine ⟨rfl, ((i + 1 : Nat) : Int), by rw [wrap_i64 (by omega) (by omega)]; omega, ?_⟩
      exact ⟨(i + 1, o'), ⟨rfl, rfl, rfl, rfl, rfl, trivial⟩, ⟨x5, hil, hb5⟩, by simp only; omega⟩
    obtain ⟨g, cg, e, hgb, _, hrow, _⟩ := q6.ptr (by omega)
    injection e with e _ _
    subst e
    have ri := (hrow.elem pcS_len (at_get hil)).ext x3
    have oi := hok1 _ (List.mem_of_getElem? (at_get hil))
    refine Sat.block ?_
    refine Sat.seq ?_
    refine Sat.drawn (.old h3.size [24, 39]) rfl (by kernel_rfl) ?_
    refine ⟨⟨g, 0, none⟩, i, rfl, rfl, hil, ⟨by have := cellH_lt (ri 0 _ rfl); rwa [add_block] at this, pcS (at_ l1 i), rfl, ri, ?_⟩⟩
    refine (refWidth_fn (spOf (at_ l1 i)) oi).mono ?_
    rintro u h4 ⟨rfl, x4⟩
    refine ⟨x4.2, rfl, fun h5 => ?_, fun h5 => ?_⟩
    rotate_left
    · refine Sat.cond ?_
      refine Sat.skip ?_
      exact ⟨o, ⟨rfl, rfl, rfl, rfl, rfl, trivial⟩, x3.trans x4, hbest.pass (by have e : widS (spOf (at_ l1 i)) = wd (at_ l1 i) := rfl; omega)⟩
    have hfit : wd (at_ l1 i) ≤ b1 := h5
    cases o with
    | none =>
      refine ⟨rfl, fun _ => ?_, fun h6 => absurd h6 (by decide)⟩
      refine Sat.cond ?_
      refine Sat.region rfl ?_
      exact ⟨some i, ⟨rfl, rfl, rfl, rfl, rfl, trivial⟩, x3.trans x4, hbest.first hfit⟩
    | some k =>
      have hk := hbest.1
      have rk := ((hrow.elem pcS_len (at_get (show k < l1.length by omega))).ext x3)
      have okk := hok1 _ (List.mem_of_getElem? (at_get (show k < l1.length by omega)))
      refine ⟨rfl, fun h6 => absurd h6 (by omega), fun _ => ?_⟩
      refine ⟨⟨g, 0, none⟩, k, rfl, rfl, by omega, ⟨by have := cellH_lt (rk 0 _ rfl); rwa [add_block] at this, pcS (at_ l1 k), rfl, rk.ext x4, ?_⟩⟩
      refine ⟨⟨g, 0, none⟩, i, rfl, rfl, hil, ⟨by have := cellH_lt (ri 0 _ rfl); rwa [add_block] at this, pcS (at_ l1 i), rfl, ri.ext x4, ?_⟩⟩
      have hah := ahead_lt hat1 hk hil
      have hf := ahead_fn (h := h4) (spOf (at_ l1 k)) (spOf (at_ l1 i)) okk oi
      cases hv : ahead (spOf (at_ l1 k)) (spOf (at_ l1 i)) with
      | true =>
        rw [hv] at hf
        refine hf.mono ?_
        rintro u h7 ⟨rfl, x7⟩
        refine ⟨fun q hq => x7.2 q (Nat.lt_of_lt_of_le hq x4.1), ?_⟩
        refine Sat.cond ?_
        refine Sat.skip ?_
        exact ⟨some k, ⟨rfl, rfl, rfl, rfl, rfl, trivial⟩, x3.trans (x4.trans x7), hbest.keep (hah.1 hv)⟩
      | false =>
        rw [hv] at hf
        refine hf.mono ?_
        rintro u h7 ⟨rfl, x7⟩
        refine ⟨fun q hq => x7.2 q (Nat.lt_of_lt_of_le hq x4.1), ?_⟩
        refine Sat.cond ?_
        refine Sat.region rfl ?_
        exact ⟨some i, ⟨rfl, rfl, rfl, rfl, rfl, trivial⟩, x3.trans (x4.trans x7), hbest.better hfit (hah.2 hv)⟩
  rintro o h3 ⟨x3, hbest⟩
  cases o with
  | none =>
    refine Sat.seq ?_
    refine Sat.seq ?_
    refine Sat.region rfl ?_
    refine ⟨rfl, fun _ => ?_, fun h6 => absurd h6 (by decide)⟩
    refine Sat.cond ?_
    refine Sat.seq ?_
    refine Sat.region rfl ?_
    refine Sat.ret ?_
    have hK0 := hK [] l1 (.stop fun x hx => by
      obtain ⟨j, hj⟩ := List.mem_iff_getElem?.1 hx
      have := hbest j (List.getElem?_eq_some_iff.1 hj).1
      rwa [at_some hj] at this)
    rw [List.append_nil] at hK0
    exact ⟨x2.trans x3, w7, _, t1, l1, rfl, hK0, q7.ext x3, q6.ext x3⟩
  | some k =>
    obtain ⟨hk, hfit, hall⟩ := hbest
    obtain ⟨g, cg, e, hgb, _, hrow, _⟩ := q6.ptr (by omega)
    injection e with e _ _
    subst e
    have rk := (hrow.elem pcS_len (at_get hk)).ext x3
    have okk := hok1 _ (List.mem_of_getElem? (at_get hk))
    have hw0 := wd_nonneg okk
    refine Sat.seq ?_
    refine Sat.seq ?_
    refine Sat.region rfl ?_
    refine ⟨rfl, fun h6 => absurd h6 (by omega), fun _ => ?_⟩
    refine Sat.cond ?_
    refine Sat.skip ?_
    refine Sat.seq ?_
    refine Sat.region rfl ?_
    refine ⟨⟨g, 0, none⟩, k, rfl, rfl, hk, pcS (at_ l1 k), rfl, rk, ?_⟩
    refine (refWidth_fn (spOf (at_ l1 k)) okk).mono ?_
    rintro u h4 ⟨rfl, x4⟩
    have ew : widS (spOf (at_ l1 k)) = wd (at_ l1 k) := rfl
    refine ⟨rfl, b1 - wd (at_ l1 k), by rw [ew]; exact wrap_i64 (by omega) (by omega), ?_⟩
    have x34 := x3.trans x4
    have rk4 := (hrow.elem pcS_len (at_get hk)).ext x34
    have q7' := q7.ext x34
    have q6' := q6.ext x34
    refine Sat.seq ?_
    refine Sat.region rfl ?_
    refine ⟨⟨g, 0, none⟩, k, rfl, rfl, hk, pcS (at_ l1 k), rfl, rk4, ?_⟩
    refine lit_one i22 (x := .agg (pcS (at_ l1 k)).toArray) rfl ?_
    obtain ⟨hD, eD⟩ : ∃ hD, hD = h4.push (.cells (pcS (at_ l1 k)).toArray 26) := ⟨_, rfl⟩
    have xD : Ext h4 hD := by rw [eD]; exact Ext.push h4 _
    have bD : Blk hD h4.size 26 (pcS (at_ l1 k)).toArray := by rw [eD]; exact Blk.new h4 _ _
    rw [show h4.push (.cells (Value.agg (pcS (at_ l1 k)).toArray).cells 26) = hD from eD.symm]
    have q7D := q7'.ext xD
    refine append_to i22 q7D (news := pcS (at_ l1 k)) rfl (.inr ⟨_, rfl, bD.row⟩) (one_pcS _) (by omega) (by have := x2.1; have := x34.1; have := xD.1; omega) ?_
    intro w7' hE oE cE hw7
    have x2E : Ext h2 hD := x34.trans xD
    have q6E := (q6.ext x2E).chg cE fun g' hg' e => hap g' hg' e
    have rowE : Row hE ⟨g, 0, none⟩ (l1.flatMap pcS) := by
      obtain ⟨g', c', e, _, _, hr', _⟩ := q6E.ptr (by omega)
      injection e with e
      injection e with e
      injection e with e
      subst e
      exact hr'
    have xhE : Ext h hE := (x2.trans x2E).then_new cE fun i hi => (q7D.base_le i hi).1
    refine Sat.seq ?_
    refine Sat.region rfl ?_
    refine lit_zero i22 ?_
    obtain ⟨hF, eF⟩ : ∃ hF, hF = hE.push (.cells #[] 26) := ⟨_, rfl⟩
    have xF : Ext hE hF := by rw [eF]; exact Ext.push hE _
    have oF : Own hF hE.size 26 3 (.slice (some ⟨hE.size, 0, none⟩) 0 0) 0 [] := ⟨rfl, .inr ⟨hE.size, 0, #[], rfl, Nat.le_refl _, by rw [eF]; exact Blk.new hE 26 #[], Nat.le_refl _, Nat.zero_le _, rfl, rfl⟩⟩
    rw [← eF]
    refine ⟨0, k, c6', rfl, rfl, rfl, (fun h => nomatch h), by omega, by omega, Nat.le_refl _, some ⟨g, 0, none⟩, k, c6', cut0 _ _ _, rfl, rfl, ?_⟩
    have hone1 : ∀ (l2 : List Pc), ∀ u ∈ l2.flatMap pcS, u.oneCell' = true := fun l2 u hu => by
      obtain ⟨x, _, hx⟩ := List.mem_flatMap.1 hu
      exact one_pcS x u hx
    have htl : (l1.take k).length = k := by rw [List.length_take]; omega
    have hdl : (l1.drop (k + 1)).length = l1.length - (k + 1) := List.length_drop
    refine append_to i22 oF (news := (l1.take k).flatMap pcS) (by rw [flat_length pcS_len, htl]) (.inr ⟨_, rfl, by rw [← flat_take pcS_len]; exact (rowE.ext xF).take _⟩) (hone1 _) (by omega) (by have := xF.1; omega) ?_
    intro w8 hG oG cG hw8
    have xG : Ext hE hG := xF.then_new cG fun i hi => (oF.base_le i hi).1
    refine Sat.region rfl ?_
    refine ⟨rfl, ((k + 1 : Nat) : Int), by rw [wrap_i64 (by omega) (by omega)]; omega, ?_⟩
    refine ⟨k + 1, l1.length, c6', rfl, rfl, rfl, (fun h => nomatch h), by omega, by omega, Nat.le_refl _, _, l1.length - (k + 1), c6' - (k + 1), rfl, rfl, rfl, ?_⟩
    refine append_to i22 oG (news := (l1.drop (k + 1)).flatMap pcS) (by rw [flat_length pcS_len, hdl]) ?_ (hone1 _) (by omega) (by have := xG.1; omega) ?_
    · by_cases h0 : l1.length - (k + 1) = 0
      · exact .inl h0
      · refine .inr ⟨(⟨g, 0, none⟩ : Addr).add ((k + 1) * 3), ?_, ?_⟩
        · rw [if_neg (by omega)]; rfl
        · rw [← flat_drop pcS_len]; exact (rowE.ext xG).drop _
    intro w9 hH oH cH hw9
    have xH : Ext hE hH := xG.then_new cH fun i hi => (oG.base_le i hi).1
    have oE' := oE.ext xH
    have hmid : l1 = l1.take k ++ at_ l1 k :: l1.drop (k + 1) := by
      have h9 := List.take_append_drop k l1
      rw [List.drop_eq_getElem_cons hk] at h9
      rw [show at_ l1 k = l1[k] from at_some (List.getElem?_eq_getElem hk)]
      exact h9.symm
    refine ⟨(b1 - wd (at_ l1 k), l1.take k ++ l1.drop (k + 1), t1 ++ [at_ l1 k], w9, w7'), ⟨rfl, rfl, rfl, trivial⟩, ⟨xhE.trans xH, ?_, ?_, ?_, ?_, by simp only; omega, fun t r hr => ?_, fun g' h8 h9 => ?_⟩, ?_⟩
    · have := oH.mono (b := h.size) xhE.1
      rw [List.length_append, htl, hdl, List.flatMap_append]
      simpa using this
    · rw [List.length_append, List.length_singleton, List.flatMap_append]
      simpa using oE'
    · refine List.Sublist.trans ?_ hsub
      conv => rhs; rw [hmid]
      exact List.Sublist.append_left (List.sublist_cons_self _ _) _
    · simp only [List.length_append, List.length_singleton, htl, hdl]; omega
    · have hRP : RefPlan b1 (l1.take k ++ at_ l1 k :: l1.drop (k + 1)) (at_ l1 k :: t) r := .take hfit (fun y hy hyb => by
        rcases List.mem_append.1 hy with h8 | h8
        · obtain ⟨j, hj⟩ := List.mem_iff_getElem?.1 h8
          rw [List.getElem?_take] at hj
          split at hj
          · rename_i hjk
            rw [← at_some hj]
            exact hall j (by omega) (by omega) (by rw [at_some hj]; exact hyb)
          · cases hj
        · obtain ⟨j, hj⟩ := List.mem_iff_getElem?.1 h8
          rw [List.getElem?_drop] at hj
          have := (List.getElem?_eq_some_iff.1 hj).1
          rw [← at_some hj]
          exact hall (k + 1 + j) (by omega) (by omega) (by rw [at_some hj]; exact hyb)) hr
      rw [← hmid] at hRP
      have := hK _ _ hRP
      simpa using this
    · have h10 := (oH.base_le g' h8).1
      have h11 := (oE.base_le g' h9).2
      omega
    · simp only [List.length_append, htl, hdl]; omega
end Go.Proofs.Ytobjkcmiicflmaa
