/- Taking over the sources: Own of an event, of an item; own; few. -/
import Derived.Test.YtiheebgoadmomaaM5
set_option maxRecDepth 100000
set_option linter.unusedVariables false
namespace Go.Proofs.Ytiheebgoadmomaa
open Go Go.V Go.V.Heaps

def evC (x : It) : List Value := [.int .i64 x.ek, .int .u8 x.ec, .bool x.sh, .bool x.ct]
theorem own_ev {h : Heap} (x : It) : FnS Try.prog 22 [.agg (evC x).toArray] h fun u h' => u = .agg (evC x).toArray ∧ Ext h h' := by
  refine FnS.intro Try.func22 rfl rfl rfl ?_
  refine Sat.seq ?_
  refine Sat.region rfl ?_
  obtain ⟨hA, eA⟩ : ∃ hA, hA = h.push (.cells (evC x).toArray 28) := ⟨_, rfl⟩
  have xA : Ext h hA := by rw [eA]; exact Ext.push h _
  have bA : Blk hA h.size 28 (evC x).toArray := by rw [eA]; exact Blk.new h _ _
  obtain ⟨hB, eB⟩ : ∃ hB, hB = hA.push (.cells #[.int .i64 0, .int .u8 0, .bool false, .bool false] 35) := ⟨_, rfl⟩
  have xB : Ext hA hB := by rw [eB]; exact Ext.push hA _
  have bB : Blk hB hA.size 35 #[.int .i64 0, .int .u8 0, .bool false, .bool false] := by rw [eB]; exact Blk.new hA _ _
  have bA2 := bA.ext xB
  refine Sat.at (h' := hB) (by rw [eB, eA]; rfl) ?_
  have sA : hA.size = h.size + 1 := by rw [eA, Array.size_push]
  refine Sat.seq ?_
  refine Sat.region rfl ?_
  refine ⟨by decide, _, bA2.cell 0, by decide, _, bA2.cell 1, by decide, _, bA2.cell 2, by decide, _, bA2.cell 3, ?_⟩
  refine build_strct rfl rfl rfl (cells := (evC x).toArray) (by kernel_rfl) ?_
  have e1 : (h.push (.cells (Value.agg (evC x).toArray).cells 28)).size = hA.size := by rw [eA]; rfl
  rw [e1]
  refine ⟨rfl, ?_, bB.okAt (by decide), ?_⟩
  · intro u hu; simp [evC] at hu; rcases hu with rfl | rfl | rfl | rfl <;> rfl
  refine Sat.ret ?_
  refine ⟨_, rfl, (bB.whole (vs := evC x) rfl).row, ?_⟩
  exact ⟨rfl, setRow_new (xA.trans xB) (by omega) _ _⟩

theorem own_it {h : Heap} {x : It} {dv : Value} (hb : BytesAt h dv x.data) (hn : x.data.length ≤ 1000000000) : FnS Try.prog 17 [.agg (itC x dv).toArray] h fun u h' => Ext h h' ∧ ∃ dv', u = .agg (itC x dv').toArray ∧ Own h' h.size 5 1 dv' x.data.length (bytesV x.data) := by
  obtain ⟨A, c, rfl, hc, hrow⟩ := hb
  refine FnS.intro Try.func17 rfl rfl rfl ?_
  refine Sat.seq ?_
  refine Sat.region rfl ?_
  obtain ⟨hA, eA⟩ : ∃ hA, hA = h.push (.cells (itC x (.slice A x.data.length c)).toArray 30) := ⟨_, rfl⟩
  have xA : Ext h hA := by rw [eA]; exact Ext.push h _
  have bA : Blk hA h.size 30 (itC x (.slice A x.data.length c)).toArray := by rw [eA]; exact Blk.new h _ _
  obtain ⟨hB, eB⟩ : ∃ hB, hB = hA.push (.cells #[.int .i64 0, .int .i64 0, .slice none 0 0, .int .i64 0, .int .u8 0, .bool false, .bool false, .int .i64 0, .int .i64 0] 37) := ⟨_, rfl⟩
  have xB : Ext hA hB := by rw [eB]; exact Ext.push hA _
  have bB : Blk hB hA.size 37 #[.int .i64 0, .int .i64 0, .slice none 0 0, .int .i64 0, .int .u8 0, .bool false, .bool false, .int .i64 0, .int .i64 0] := by rw [eB]; exact Blk.new hA _ _
  have bA2 := bA.ext xB
  refine Sat.at (h' := hB) (by rw [eB, eA]; rfl) ?_
  have sA : hA.size = h.size + 1 := by rw [eA, Array.size_push]
  have sB : hB.size = hA.size + 1 := by rw [eB, Array.size_push]
  have e1 : (h.push (.cells (Value.agg (itC x (.slice A x.data.length c)).toArray).cells 30)).size = hA.size := by rw [eA]; rfl
  rw [e1]
  have hlt : h.size < hB.size := by omega
  refine Sat.seq ?_
  refine Sat.drawn (.old hB.size [10, 13]) rfl (by kernel_rfl) ?_
  refine ⟨by decide, hlt, _, bA2.cell 0, by decide, hlt, _, bA2.cell 1, ?_⟩
  refine lit_zero i26 ?_
  obtain ⟨hC, eC⟩ : ∃ hC, hC = hB.push (.cells #[] 5) := ⟨_, rfl⟩
  have xC : Ext hB hC := by rw [eC]; exact Ext.push hB _
  have oC : Own hC hB.size 5 1 (.slice (some ⟨hB.size, 0, none⟩) 0 0) 0 [] := ⟨rfl, .inr ⟨hB.size, 0, #[], rfl, Nat.le_refl _, by rw [eC]; exact Blk.new hB 5 #[], Nat.le_refl _, Nat.zero_le _, rfl, rfl⟩⟩
  rw [← eC]
  refine ⟨xC.2, ?_⟩
  refine ⟨by decide, hlt, .slice A x.data.length c, (bA2.ext xC).cell 2, ?_⟩
  refine append_to i26 oC (news := bytesV x.data) (by simp [bytesV]) ?_ (bytesV_one _) (by omega) xC.1 ?_
  · rcases hrow with h0 | ⟨q, hq, hrow⟩
    · rw [h0]; exact .inl rfl
    · exact .inr ⟨q, hq, hrow.ext ((xA.trans xB).trans xC)⟩
  intro dv' hD oD cD hdv
  have xD : Ext hB hD := xC.then_new cD fun i hi => by injection hi with hi; exact Nat.le_of_eq hi
  have hdv1 : ∀ k, k < hB.size → hD[k]? = hC[k]? := fun k hk => (xD.2 k hk).trans (xC.2 k hk).symm
  refine ⟨hdv1, ?_⟩
  have bD := bA2.ext xD
  refine ⟨by decide, hlt, _, rfl, (fun j v hj => ?_ : Row hD _ (evC x)), ?_⟩
  · have := bD.row (3 + j) v
    rw [add_add]
    refine bD.row (3 + j) v ?_
    show (itC x (.slice A x.data.length c))[3 + j]? = some v
    have : (itC x (.slice A x.data.length c)).drop 3 = evC x ++ [.int .i64 x.rows, .int .i64 x.cols] := rfl
    rw [← List.getElem?_drop, this, List.getElem?_append_left (List.getElem?_eq_some_iff.1 hj).1]
    exact hj
  refine (own_ev x).mono ?_
  rintro u hE ⟨rfl, xE⟩
  have xBE := xD.trans xE
  refine ⟨fun k hk => xE.2 k (Nat.lt_of_lt_of_le hk xD.1), ?_⟩
  refine ⟨by decide, hlt, _, (bA2.ext xBE).cell 7, by decide, hlt, _, (bA2.ext xBE).cell 8, ?_⟩
  obtain ⟨dA, dc, rfl, _⟩ := oD.slice
  refine build_strct rfl rfl rfl (cells := (itC x (.slice dA (0 + x.data.length) dc)).toArray) (by kernel_rfl) ?_
  have dv1 : (Value.slice dA (0 + x.data.length) dc).oneCell' = true := rfl
  have bE := bB.ext xBE
  have oD' : Own hD hB.size 5 1 (.slice dA (0 + x.data.length) dc) x.data.length (bytesV x.data) := by simpa using oD
  refine ⟨rfl, one_it x dv1, bE.okAt (by decide), ?_⟩
  refine Sat.ret ?_
  refine ⟨_, rfl, (bE.whole (vs := itC x (.slice dA (0 + x.data.length) dc)) rfl).row, ?_⟩
  refine ⟨setRow_new ((xA.trans xB).trans xBE) (by omega) _ _, _, rfl, ((oD'.ext xE).mono (by omega)).chg (setRow_chg _ _ _ _) fun g hg e => ?_⟩
  have := ((oD'.ext xE).base_le g hg).1
  simp only at e
  omega

theorem i49 : slInfo Try.prog 49 = some (37, 9, .agg #[.int .i64 0, .int .i64 0, .slice none 0 0, .int .i64 0, .int .u8 0, .bool false, .bool false, .int .i64 0, .int .i64 0], 72) := by kernel_rfl
theorem i33 : slInfo Try.prog 33 = some (49, 1, .slice none 0 0, 24) := by kernel_rfl
theorem i25 : slInfo Try.prog 25 = some (30, 9, .agg #[.int .i64 0, .int .i64 0, .slice none 0 0, .int .i64 0, .int .u8 0, .bool false, .bool false, .int .i64 0, .int .i64 0], 72) := by kernel_rfl
theorem i22 : slInfo Try.prog 22 = some (25, 1, .slice none 0 0, 24) := by kernel_rfl

def encI (y : It × Value) : List Value := itC y.1 y.2
theorem encI_len (y : It × Value) : (encI y).length = 9 := rfl
theorem items_of {h : Heap} {base e n : Nat} {v : Value} {ys : List (It × Value)} (ho : Own h base e 9 v n (ys.flatMap encI)) (hn : ys.length = n) (hb : ∀ y ∈ ys, BytesAt h y.2 y.1.data) : ItemsV h v (ys.map (·.1)) := by
  obtain ⟨A, c, rfl, hc⟩ := ho.slice
  refine ⟨A, c, by simp [hn], by simpa [hn] using hc, ?_⟩
  by_cases h0 : n = 0
  · exact .inl (by rw [List.map_eq_nil_iff]; exact List.eq_nil_of_length_eq_zero (by omega))
  · obtain ⟨g, c', e', _, _, hrow, _⟩ := ho.ptr (by omega)
    injection e' with e1
    refine .inr ⟨⟨g, 0, none⟩, e1, fun k x hk => ?_⟩
    rw [List.getElem?_map, Option.map_eq_some_iff] at hk
    obtain ⟨y, hy, rfl⟩ := hk
    have h1 := hrow.elem encI_len hy
    have h2 := hb y (List.mem_of_getElem? hy)
    obtain ⟨A', c'', e2, hc2, hr2⟩ := h2
    refine ⟨A', c'', ?_, A', c'', rfl, hc2, hr2⟩
    rw [← e2]; exact h1
theorem srcs_of {h : Heap} {base e e' n : Nat} {v : Value} {vals : List (Value × List (It × Value))} (ho : Own h base e 1 v n (vals.map (·.1))) (hn : vals.length = n)
    (hi : ∀ o ∈ vals, Own h base e' 9 o.1 o.2.length (o.2.flatMap encI) ∧ ∀ y ∈ o.2, BytesAt h y.2 y.1.data) : SrcsV h v (vals.map fun o => o.2.map (·.1)) := by
  obtain ⟨A, c, rfl, hc⟩ := ho.slice
  refine ⟨A, c, by simp [hn], by simpa [hn] using hc, ?_⟩
  by_cases h0 : n = 0
  · exact .inl (by rw [List.map_eq_nil_iff]; exact List.eq_nil_of_length_eq_zero (by omega))
  · obtain ⟨g, c', e1, _, _, hrow, _⟩ := ho.ptr (by omega)
    injection e1 with e1
    refine .inr ⟨⟨g, 0, none⟩, e1, fun k l hk => ?_⟩
    rw [List.getElem?_map, Option.map_eq_some_iff] at hk
    obtain ⟨o, ho', rfl⟩ := hk
    obtain ⟨h1, h2⟩ := hi o (List.mem_of_getElem? ho')
    refine ⟨o.1, ?_, items_of h1 rfl h2⟩
    rw [Nat.mul_one]
    exact hrow k o.1 (by rw [List.getElem?_map, ho']; rfl)

theorem len_le_total {α : Type} {l : List α} : ∀ {ls : List (List α)}, l ∈ ls → l.length ≤ total ls
  | a :: r, hl => by
    have e : total (a :: r) = a.length + total r := by simp [total]
    rcases List.mem_cons.1 hl with rfl | h
    · omega
    · have := len_le_total h; omega
theorem own_fn {h : Heap} {v : Value} {ls : List (List It)} (hs : SrcsV h v ls) (hlen : ls.length ≤ 100000) (htot : total ls ≤ 1000000) (hbig : ∀ l ∈ ls, ∀ x ∈ l, x.data.length ≤ 1000000000) :
    FnS Try.prog 8 [v] h fun u h' => Ext h h' ∧ SrcsV h' u ls := by
  have hll : ∀ l ∈ ls, l.length ≤ 1000000 := fun l hl => Nat.le_trans (len_le_total hl) htot
  obtain ⟨A, c, rfl, hlc, hsrc⟩ := hs
  refine FnS.intro Try.func8 rfl rfl rfl ?_
  refine Sat.seq ?_
  refine Sat.region rfl ?_
  refine Sat.seq ?_
  refine Sat.region rfl ?_
  refine Sat.seq ?_
  refine Sat.seq ?_
  refine Sat.region rfl ?_
  refine Sat.block ?_
  refine Sat.loop (X := Nat × List (Value × List (It × Value)) × Value) (fun x => [(3, x.2.2), (9, .slice A ls.length c), (10, .int .i64 (ls.length : Int)), (11, .int .i64 (x.1 : Int))])
    (fun x h' => Ext h h' ∧ x.1 ≤ ls.length ∧ x.2.1.length = x.1 ∧ Own h' h.size 49 1 x.2.2 x.1 (x.2.1.map (·.1)) ∧ x.2.1.map (fun o => o.2.map (·.1)) = ls.take x.1 ∧
      (∀ o ∈ x.2.1, Own h' h.size 37 9 o.1 o.2.length (o.2.flatMap encI) ∧ ∀ y ∈ o.2, Own h' h.size 5 1 y.2 y.1.data.length (bytesV y.1.data))) (fun x => ls.length - x.1) (0, [], .slice none 0 0)
    ⟨rfl, rfl, rfl, rfl, trivial⟩ ⟨Ext.refl h, Nat.zero_le _, rfl, Own.nil _ _ _ _, by simp, fun o ho => (by cases ho)⟩ ?_
  rintro ⟨i, vals, v3⟩ hR ⟨xR, hi, hvl, o3, hmap, hvals⟩
  simp only at xR hi hvl o3 hmap hvals ⊢
  refine Sat.seq ?_
  refine Sat.region rfl ?_
  refine ⟨rfl, fun h1 => ?_, fun h1 => ?_⟩
  · have hil : i < ls.length := by omega
    obtain ⟨p, rfl, hp⟩ : ∃ p, A = some p ∧ ∀ (i : Nat) l, ls[i]? = some l → ∃ vi, cellH h (p.add (i * 1)) = some vi ∧ ItemsV h vi l := by
      rcases hsrc with h0 | h0
      · subst h0; simp at hil
      · exact h0
    have hli : ls[i]? = some ls[i] := List.getElem?_eq_getElem hil
    obtain ⟨vi, hvi, B, cc, rfl, hcc, hit⟩ := hp i _ hli
    have hmem := List.mem_of_getElem? hli
    generalize hle : ls[i] = l at *
    have hlm := hll l hmem
    have hbl := hbig l hmem
    refine Sat.seq ?_
    refine Sat.cond ?_
    refine Sat.skip ?_
    refine Sat.cut (X := List (Value × List (It × Value)) × Value) (fun x => [(3, x.2), (9, .slice (some p) ls.length c), (10, .int .i64 (ls.length : Int)), (11, .int .i64 (i : Int))])
      (fun x h' => Ext h h' ∧ x.1.length = i + 1 ∧ Own h' h.size 49 1 x.2 (i + 1) (x.1.map (·.1)) ∧ x.1.map (fun o => o.2.map (·.1)) = ls.take (i + 1) ∧
        (∀ o ∈ x.1, Own h' h.size 37 9 o.1 o.2.length (o.2.flatMap encI) ∧ ∀ y ∈ o.2, Own h' h.size 5 1 y.2 y.1.data.length (bytesV y.1.data))) ?_ ?_
    · refine Sat.block ?_
      refine Sat.seq ?_
      refine Sat.region rfl ?_
      refine ⟨p, i, rfl, rfl, hil, _, xR.cell hvi, ?_⟩
      refine Sat.seq ?_
      refine Sat.region rfl ?_
      refine Sat.cut (X := List (It × Value) × Value) (fun x => [(3, v3), (6, x.2), (9, .slice (some p) ls.length c), (10, .int .i64 (ls.length : Int)), (11, .int .i64 (i : Int))])
        (fun x h' => Ext hR h' ∧ Own h' hR.size 37 9 x.2 x.1.length (x.1.flatMap encI) ∧ x.1.map (·.1) = l ∧ (∀ y ∈ x.1, Own h' hR.size 5 1 y.2 y.1.data.length (bytesV y.1.data))) ?_ ?_
      · refine Sat.seq ?_
        refine Sat.region rfl ?_
        refine Sat.block ?_
        refine Sat.loop (X := Nat × List (It × Value) × Value) (fun x => [(3, v3), (6, x.2.2), (9, .slice (some p) ls.length c), (10, .int .i64 (ls.length : Int)), (11, .int .i64 (i : Int)), (15, .slice B l.length cc), (16, .int .i64 (l.length : Int)), (17, .int .i64 (x.1 : Int))])
          (fun x h' => Ext hR h' ∧ x.1 ≤ l.length ∧ x.2.1.length = x.1 ∧ Own h' hR.size 37 9 x.2.2 x.1 (x.2.1.flatMap encI) ∧ x.2.1.map (·.1) = l.take x.1 ∧ (∀ y ∈ x.2.1, Own h' hR.size 5 1 y.2 y.1.data.length (bytesV y.1.data))) (fun x => l.length - x.1) (0, [], .slice none 0 0)
          ⟨rfl, rfl, rfl, rfl, rfl, rfl, rfl, rfl, trivial⟩ ⟨Ext.refl _, Nat.zero_le _, rfl, Own.nil _ _ _ _, by simp, fun o ho => (by cases ho)⟩ ?_
        rintro ⟨j, ys, v6⟩ h1 ⟨x1, hj, hyl, o6, hym, hys⟩
        simp only at x1 hj hyl o6 hym hys ⊢
        refine Sat.seq ?_
        refine Sat.region rfl ?_
        refine ⟨rfl, fun h2 => ?_, fun h2 => ?_⟩
        · have hjl : j < l.length := by omega
          obtain ⟨p2, rfl, hp2⟩ : ∃ p2, B = some p2 ∧ ItemsAt h p2 l := by
            rcases hit with h0 | h0
            · subst h0; simp at hjl
            · exact h0
          have hlj : l[j]? = some l[j] := List.getElem?_eq_getElem hjl
          obtain ⟨A', c', hrow, hbyt⟩ := hp2 j _ hlj
          have hbx := hbl _ (List.mem_of_getElem? hlj)
          generalize hxe : l[j] = x at *
          have hxh1 := xR.trans x1
          refine Sat.seq ?_
          refine Sat.cond ?_
          refine Sat.skip ?_
          refine Sat.seq ?_
          refine Sat.block ?_
          refine Sat.seq ?_
          refine Sat.region rfl ?_
          refine ⟨p2, j, rfl, rfl, hjl, _, rfl, hrow.ext hxh1, ?_⟩
          obtain ⟨hA, eA⟩ : ∃ hA, hA = h1.push (.cells #[.int .i64 0, .int .i64 0, .slice none 0 0, .int .i64 0, .int .u8 0, .bool false, .bool false, .int .i64 0, .int .i64 0] 30) := ⟨_, rfl⟩
          have xA : Ext h1 hA := by rw [eA]; exact Ext.push h1 _
          have bA : Blk hA h1.size 30 #[.int .i64 0, .int .i64 0, .slice none 0 0, .int .i64 0, .int .u8 0, .bool false, .bool false, .int .i64 0, .int .i64 0] := by rw [eA]; exact Blk.new h1 _ _
          refine ⟨rfl, one_it x rfl, (Blk.new h1 30 #[.int .i64 0, .int .i64 0, .slice none 0 0, .int .i64 0, .int .u8 0, .bool false, .bool false, .int .i64 0, .int .i64 0]).okAt (by decide), ?_⟩
          obtain ⟨hB, eB⟩ : ∃ hB, hB = setRow hA ⟨h1.size, 0, none⟩ (itC x (.slice A' x.data.length c')) 0 := ⟨_, rfl⟩
          have xB : Ext h1 hB := by rw [eB]; exact setRow_new xA (Nat.le_refl _) _ _
          have bB : Blk hB h1.size 30 (itC x (.slice A' x.data.length c')).toArray := by rw [eB]; exact bA.whole rfl
          refine Sat.at (h' := hB) (by rw [eB, eA]; rfl) ?_
          refine Sat.region rfl ?_
          refine ⟨_, rfl, bB.row, ?_⟩
          refine (own_it (x := x) (hbyt.ext (hxh1.trans xB)) hbx).mono ?_
          rintro u hC ⟨xC, dv, rfl, oC⟩
          have x1C := xB.trans xC
          refine lit_one i49 (x := .agg (itC x dv).toArray) rfl ?_
          obtain ⟨hD, eD⟩ : ∃ hD, hD = hC.push (.cells (itC x dv).toArray 37) := ⟨_, rfl⟩
          have xD : Ext hC hD := by rw [eD]; exact Ext.push hC _
          have bD : Blk hD hC.size 37 (itC x dv).toArray := by rw [eD]; exact Blk.new hC _ _
          rw [show hC.push (.cells (Value.agg (itC x dv).toArray).cells 37) = hD from eD.symm]
          have x1D := x1C.trans xD
          have o6D := o6.ext x1D
          have dv1 : dv.oneCell' = true := by obtain ⟨_, _, rfl, _⟩ := oC.slice; rfl
          refine append_to i49 o6D (news := itC x dv) rfl (.inr ⟨_, rfl, bD.row⟩) (one_it x dv1) (by omega) (by have := x1.1; have := x1D.1; omega) ?_
          intro v6' hE oE cE _
          have hysD : ∀ y ∈ ys ++ [(x, dv)], Own hD hR.size 5 1 y.2 y.1.data.length (bytesV y.1.data) := fun y hy => by
            rcases List.mem_append.1 hy with h4 | h4
            · exact (hys y h4).ext x1D
            · rw [List.mem_singleton.1 h4]
              exact (oC.ext xD).mono (by have := x1.1; have := xB.1; omega)
          refine Sat.region rfl ?_
          refine ⟨rfl, ((j + 1 : Nat) : Int), by rw [wrap_i64 (by omega) (by omega)]; omega, ?_⟩
          refine ⟨(j + 1, ys ++ [(x, dv)], v6'), ⟨rfl, rfl, rfl, rfl, rfl, rfl, rfl, rfl, trivial⟩, ⟨?_, hjl, ?_, ?_, ?_, ?_⟩, by simp only; omega⟩
          · exact (x1.trans x1D).then_new cE fun k hk => (o6D.base_le k hk).1
          · simp [hyl]
          · rw [List.flatMap_append]
            simpa [encI] using oE
          · simp only
            rw [List.map_append, hym, List.take_succ_eq_append_getElem hjl, hxe]
            rfl
          · exact fun y hy => (hysD y hy).chg cE ((hysD y hy).apart o6D (by decide))
        · refine Sat.seq ?_
          refine Sat.cond ?_
          refine Sat.exit ?_
          have : j = l.length := by omega
          subst this
          rw [List.take_length] at hym
          refine ⟨(ys, v6), ⟨rfl, rfl, rfl, rfl, rfl, trivial⟩, x1, ?_, hym, hys⟩
          simp only
          rw [hyl]; exact o6
      · rintro ⟨ys, v6⟩ h1 ⟨x1, o6, hym, hys⟩
        simp only at x1 o6 hym hys ⊢
        refine Sat.region rfl ?_
        obtain ⟨B6, c6, rfl, _⟩ := o6.slice
        refine lit_one i33 (x := .slice B6 ys.length c6) rfl ?_
        obtain ⟨hD, eD⟩ : ∃ hD, hD = h1.push (.cells #[.slice B6 ys.length c6] 49) := ⟨_, rfl⟩
        have xD : Ext h1 hD := by rw [eD]; exact Ext.push h1 _
        have bD : Blk hD h1.size 49 #[.slice B6 ys.length c6] := by rw [eD]; exact Blk.new h1 _ _
        rw [show h1.push (.cells (Value.slice B6 ys.length c6).cells 49) = hD from eD.symm]
        have xRD := x1.trans xD
        have o3D := o3.ext xRD
        refine append_to i33 o3D (news := [.slice B6 ys.length c6]) rfl (.inr ⟨_, rfl, bD.row⟩) (by simp [Value.oneCell']) (by omega) (by have := xR.1; have := xRD.1; omega) ?_
        intro v3' hE oE cE _
        have hvD : ∀ o ∈ vals ++ [(.slice B6 ys.length c6, ys)], Own hD h.size 37 9 o.1 o.2.length (o.2.flatMap encI) ∧ ∀ y ∈ o.2, Own hD h.size 5 1 y.2 y.1.data.length (bytesV y.1.data) := fun o ho => by
          rcases List.mem_append.1 ho with h4 | h4
          · exact ⟨((hvals o h4).1).ext xRD, fun y hy => ((hvals o h4).2 y hy).ext xRD⟩
          · rw [List.mem_singleton.1 h4]
            exact ⟨(o6.ext xD).mono xR.1, fun y hy => ((hys y hy).ext xD).mono xR.1⟩
        refine ⟨(vals ++ [(.slice B6 ys.length c6, ys)], v3'), ⟨rfl, rfl, rfl, rfl, trivial⟩, ?_, ?_, ?_, ?_, ?_⟩
        · exact (xR.trans xRD).then_new cE fun k hk => (o3D.base_le k hk).1
        · simp [hvl]
        · simpa using oE
        · simp only
          rw [List.map_append, hmap, List.take_succ_eq_append_getElem hil]
          simp [hym, hle]
        · exact fun o ho => ⟨(hvD o ho).1.chg cE ((hvD o ho).1.apart o3D (by decide)), fun y hy => ((hvD o ho).2 y hy).chg cE (((hvD o ho).2 y hy).apart o3D (by decide))⟩
    · rintro ⟨vals', v3'⟩ h2 ⟨x2, hv2, o2, hm2, hvs2⟩
      refine Sat.region rfl ?_
      refine ⟨rfl, ((i + 1 : Nat) : Int), by rw [wrap_i64 (by omega) (by omega)]; omega, ?_⟩
      exact ⟨(i + 1, vals', v3'), ⟨rfl, rfl, rfl, rfl, trivial⟩, ⟨x2, hil, hv2, o2, hm2, hvs2⟩, by simp only; omega⟩
  · refine Sat.seq ?_
    refine Sat.cond ?_
    refine Sat.exit ?_
    refine Sat.seq ?_
    refine Sat.region rfl ?_
    refine Sat.ret ?_
    have : i = ls.length := by omega
    subst this
    rw [List.take_length] at hmap
    refine ⟨xR, ?_⟩
    rw [← hmap]
    exact srcs_of o3 hvl fun o ho => ⟨(hvals o ho).1, fun y hy => ((hvals o ho).2 y hy).bytes⟩
end Go.Proofs.Ytiheebgoadmomaa
