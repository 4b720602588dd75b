/- The program's Plan, walked. -/
import Derived.Test.YtobjkcmiicflmaaC17
set_option maxRecDepth 100000
set_option linter.unusedVariables false
namespace Go.Proofs.Ytobjkcmiicflmaa
open Go Go.V Go.V.Heaps

def zPc : Pc := ⟨0, 0, 0, 0⟩
theorem madeCells_flat (n : Nat) : (madeCells (Value.agg #[.int .i64 0, .int .i64 0, .int .i64 0, .int .i64 0]).cells (n * 4)).toList = (List.replicate n zPc).flatMap pcC := by
  apply List.ext_getElem?
  intro j
  by_cases hj : j < n * 4
  · have h1 : j / 4 < n := by omega
    have hf := flat_at pcC_len (l := List.replicate n zPc) (k := j / 4) (x := zPc) (by rw [List.getElem?_replicate, if_pos h1])
    have h2 : ((List.replicate n zPc).flatMap pcC)[j]? = (pcC zPc)[j % 4]? := by
      rw [← hf, List.getElem?_take, if_pos (Nat.mod_lt _ (by decide)), List.getElem?_drop]
      congr 1; omega
    rw [h2]
    have h3 : j % 4 < 4 := Nat.mod_lt _ (by decide)
    rw [Array.getElem?_toList]
    simp only [madeCells, Array.getElem?_map, Array.getElem?_range, hj, if_true, Option.map_some]
    rcases (show j % 4 = 0 ∨ j % 4 = 1 ∨ j % 4 = 2 ∨ j % 4 = 3 by omega) with e | e | e | e <;> simp [Value.cells, e, pcC, zPc]
  · rw [List.getElem?_eq_none (by simp [size_madeCells]; omega), List.getElem?_eq_none (by rw [flat_length pcC_len]; simp; omega)]

theorem at_zero_swap {l : List Pc} {n : Nat} (hl : l.length = n + 1) : at_ (down plLess (swp l 0 n) 0 n).1 n = at_ l 0 := by
  have h1 := down_keep plLess n n (Nat.le_refl _) _ (swp l 0 n) 0 rfl (by rw [swp_length]; omega)
  have h2 : at_ (down plLess (swp l 0 n) 0 n).1 n = at_ (swp l 0 n) n := by unfold at_; rw [List.getD_eq_getElem?_getD, h1, List.getD_eq_getElem?_getD]
  rw [h2, swp_at l (by omega) (by omega)]
  unfold swpF
  split
  · rename_i e; rw [e]
  · rw [if_pos rfl]

theorem PRep.rebase {h0 h : Heap} {bp g c : Nat} {l : List Pc} (hs : PRep h0 bp g c l h) : PRep h bp g c l h :=
  ⟨Chg.refl _ _, hs.var, hs.own, hs.ne, ⟨Nat.lt_of_lt_of_le hs.lt.1 hs.chg.1, Nat.lt_of_lt_of_le hs.lt.2 hs.chg.1⟩, hs.few⟩
theorem PRep.from {h0 h h' : Heap} {bp g c : Nat} {l l' : List Pc} (hs : PRep h0 bp g c l h) (hs' : PRep h bp g c l' h') : PRep h0 bp g c l' h' :=
  ⟨hs.chg.trans hs'.chg, hs'.var, hs'.own, hs'.ne, hs.lt, hs'.few⟩

/-- What the program's loop keeps. -/
structure PInv (hC : Heap) (bp g n : Nat) (b0 : Int) (P0 : List Pc) (b : Int) (l t f : List Pc) (w9 w10 : Value) (h' : Heap) : Prop where
  pile : PRep hC bp g n l h'
  heap : HO plLe l l.length
  tak : Own h' hC.size 35 3 w9 t.length (t.flatMap pcS)
  lef : Own h' hC.size 49 4 w10 f.length (f.flatMap pcC)
  len : t.length + f.length + l.length = P0.length
  bud : -9223372036854775808 ≤ b ∧ b ≤ 9223372036854775807
  ok : ∀ x ∈ l, OkPc x
  keys : Keys l
  K : ∀ S, S.Perm l → S.Pairwise plLt → ∃ S0, S0.Perm P0 ∧ S0.Pairwise plLt ∧ run b0 S0 = (t ++ (run b S).1, f ++ (run b S).2)

theorem HO.least {l : List Pc} (hh : HO plLe l l.length) (hk : Keys l) {n : Nat} (hn : l.length = n + 1) {l2 : List Pc} (hp : (l2 ++ [at_ l 0]).Perm l) : ∀ y ∈ l2, plLt (at_ l 0) y := fun y hy => by
  have hm : y ∈ l := hp.mem_iff.1 (List.mem_append_left _ hy)
  obtain ⟨j, hj⟩ := List.mem_iff_getElem?.1 hm
  have hjl := (List.getElem?_eq_some_iff.1 hj).1
  have h1 := HO.top plOrd (fun a => by unfold plLe; omega) hh j hjl
  rw [at_some hj] at h1
  have hk2 : Keys (l2 ++ [at_ l 0]) := ((hp.map keyP).nodup_iff).2 hk
  have h2 : keyP y ≠ keyP (at_ l 0) := by
    unfold Keys at hk2
    rw [List.map_append, List.nodup_append] at hk2
    exact hk2.2.2 _ (List.mem_map_of_mem hy) _ (by simp)
  unfold keyP at h2
  unfold plLe at h1
  unfold plLt
  omega

theorem plan_fn {h : Heap} {v : Value} {ls : List Sp} {b : Int} (hv : SpansV h v ls) (hn : ls.length ≤ 40) (hok : ∀ x ∈ ls, OkSp x) (hb : -9223372036854775808 ≤ b ∧ b ≤ 9223372036854775807) :
    FnS Try.prog 7 [v, .int .i64 b] h fun u h' => Ext h h' ∧ ∃ vt vr t r, u = .tuple #[vt, vr] ∧ RefPlan b (pcs ls) t r ∧ Own h' h.size 35 3 vt t.length (t.flatMap pcS) ∧ Own h' h.size 35 3 vr r.length (r.flatMap pcS) := by
  obtain ⟨A, c, rfl, hc, hr⟩ := hv
  have hpl := pcs_length ls
  refine FnS.intro Try.func7 rfl rfl rfl ?_
  refine Sat.seq ?_
  refine Sat.region rfl ?_
  refine Sat.seq ?_
  refine Sat.region rfl ?_
  refine makeSlice_own rfl rfl rfl rfl (by simp only; omega) (by omega) ?_
  obtain ⟨hA, eA⟩ : ∃ hA, hA = h.push (.cells (madeCells (Value.agg #[.int .i64 0, .int .i64 0, .int .i64 0, .int .i64 0]).cells (ls.length * 4)) 49) := ⟨_, rfl⟩
  have xA : Ext h hA := by rw [eA]; exact Ext.push h _
  have bA : Blk hA h.size 49 (madeCells (Value.agg #[.int .i64 0, .int .i64 0, .int .i64 0, .int .i64 0]).cells (ls.length * 4)) := by rw [eA]; exact Blk.new h _ _
  have sA : hA.size = h.size + 1 := by rw [eA, Array.size_push]
  rw [← eA]
  obtain ⟨hB, eB⟩ : ∃ hB, hB = hA.push (.cells #[.slice none 0 0] 47) := ⟨_, rfl⟩
  have xB : Ext hA hB := by rw [eB]; exact Ext.push hA _
  have bB : Blk hB hA.size 47 #[.slice none 0 0] := by rw [eB]; exact Blk.new hA _ _
  have sB : hB.size = hA.size + 1 := by rw [eB, Array.size_push]
  refine ⟨rfl, rfl, ⟨.slice none 0 0, (Blk.new hA 47 #[.slice none 0 0]).cell 0⟩, (Blk.new hA 47 #[.slice none 0 0]).free 0, ?_⟩
  obtain ⟨hC, eC⟩ : ∃ hC, hC = setH hB ⟨hA.size, 0, none⟩ (.slice (some ⟨h.size, 0, none⟩) ls.length ls.length) := ⟨_, rfl⟩
  have xC : Ext h hC := by rw [eC]; exact setH_new (xA.trans xB) (by omega) _ _
  have sC : hC.size = hB.size := by rw [eC]; exact setH_size ..
  have bC : Blk hC hA.size 47 #[.slice (some ⟨h.size, 0, none⟩) ls.length ls.length] := by rw [eC]; exact bB.set 0 _
  have bA2 : Blk hC h.size 49 (madeCells (Value.agg #[.int .i64 0, .int .i64 0, .int .i64 0, .int .i64 0]).cells (ls.length * 4)) := by
    rw [eC]; exact (bA.ext xB).far (by simp only; omega) _
  refine Sat.at (h' := hC) (by rw [eC, eB]; rfl) ?_
  have hrl : (List.replicate ls.length zPc).length = ls.length := List.length_replicate
  have P0 : PRep hC hA.size h.size ls.length (List.replicate ls.length zPc) hC := by
    refine ⟨Chg.refl _ _, by rw [hrl]; exact bC, ?_, by omega, by omega, by rw [hrl]; omega⟩
    refine ⟨flat_length pcC_len _, .inr ⟨h.size, ls.length, _, rfl, Nat.le_refl _, bA2, by rw [hrl]; exact Nat.le_refl _, by simp only [maxLen]; omega, size_madeCells _ _, ?_⟩⟩
    rw [hrl, madeCells_flat, List.take_of_length_le (by rw [flat_length pcC_len, hrl]; exact Nat.le_refl _)]
  refine Sat.cut (X := Unit) (fun _ => [(1, .int .i64 b), (6, .pointer (some ⟨hA.size, 0, none⟩))]) (fun _ h' => PRep hC hA.size h.size ls.length (pcs ls) h') ?_ ?_
  · refine Sat.seq ?_
    refine Sat.region rfl ?_
    refine Sat.block ?_
    refine Sat.loop (X := Nat × List Pc) (fun x => [(1, .int .i64 b), (6, .pointer (some ⟨hA.size, 0, none⟩)), (18, .slice A ls.length c), (19, .int .i64 (ls.length : Int)), (20, .int .i64 (x.1 : Int))])
      (fun x h' => PRep hC hA.size h.size ls.length x.2 h' ∧ x.1 ≤ ls.length ∧ x.2.length = ls.length ∧ ∀ j, j < x.1 → x.2[j]? = (pcs ls)[j]?) (fun x => ls.length - x.1) (0, List.replicate ls.length zPc)
      ⟨rfl, rfl, rfl, rfl, rfl, trivial⟩ ⟨P0, Nat.zero_le _, hrl, fun j hj => by simp only at hj; omega⟩ ?_
    rintro ⟨i, L⟩ h1 ⟨p1, hi, hL, hj⟩
    simp only at p1 hi hL hj ⊢
    refine Sat.seq ?_
    refine Sat.region rfl ?_
    refine ⟨rfl, fun h2 => ?_, fun h2 => ?_⟩
    rotate_left
    · refine Sat.seq ?_
      refine Sat.cond ?_
      refine Sat.exit ?_
      have : L = pcs ls := by
        apply List.ext_getElem?
        intro j
        by_cases hjl : j < ls.length
        · exact hj j (by omega)
        · rw [List.getElem?_eq_none (by omega), List.getElem?_eq_none (by omega)]
      subst this
      exact ⟨(), ⟨rfl, rfl, trivial⟩, p1⟩
    have hil : i < ls.length := by omega
    refine Sat.seq ?_
    refine Sat.cond ?_
    refine Sat.skip ?_
    obtain ⟨p, rfl, hp⟩ : ∃ p, A = some p ∧ ∀ (k : Nat) x, ls[k]? = some x → Row h (p.add (k * 3)) (spC x) := by
      rcases hr with h0 | h0
      · subst h0; simp at hil
      · exact h0
    have x1 : Ext h h1 := xC.then_new p1.chg fun k hk => by rcases hk with rfl | rfl <;> omega
    have hx := (hp i _ (List.getElem?_eq_getElem hil)).ext x1
    have hpi : (pcs ls)[i]? = some ⟨ls[i].row, ls[i].left, ls[i].right, (i : Int)⟩ := by rw [pcs_get, List.getElem?_eq_getElem hil]; rfl
    generalize ls[i] = x at *
    refine Sat.seq ?_
    refine Sat.block ?_
    refine Sat.seq ?_
    refine Sat.region rfl ?_
    refine ⟨p, i, rfl, rfl, hil, _, rfl, hx, ?_⟩
    obtain ⟨hD, eD⟩ : ∃ hD, hD = h1.push (.cells #[.int .i64 0, .int .i64 0, .int .i64 0] 35) := ⟨_, rfl⟩
    have xD : Ext h1 hD := by rw [eD]; exact Ext.push h1 _
    have bD : Blk hD h1.size 35 #[.int .i64 0, .int .i64 0, .int .i64 0] := by rw [eD]; exact Blk.new h1 _ _
    refine ⟨rfl, one_sp _, (Blk.new h1 35 #[.int .i64 0, .int .i64 0, .int .i64 0]).okAt (by decide), ?_⟩
    obtain ⟨hE, eE⟩ : ∃ hE, hE = setRow hD ⟨h1.size, 0, none⟩ (spC x) 0 := ⟨_, rfl⟩
    have xE : Ext h1 hE := by rw [eE]; exact setRow_new xD (Nat.le_refl _) _ _
    have bE : Blk hE h1.size 35 (spC x).toArray := by rw [eE]; exact bD.whole rfl
    refine Sat.at (h' := hE) (by rw [eE, eD]; rfl) ?_
    have p2 := p1.ext xE
    refine Sat.region rfl ?_
    refine ⟨_, by rw [p2.var.cell]; rfl, ?_⟩
    refine ⟨_, rfl, bE.row, ?_⟩
    refine build_strct rfl rfl rfl (cells := (pcC ⟨x.row, x.left, x.right, (i : Int)⟩).toArray) (by kernel_rfl) ?_
    refine ⟨⟨h.size, 0, none⟩, i, rfl, rfl, by omega, ?_⟩
    refine ⟨rfl, one_pc _, p2.own.cells pcC_len rfl (by omega), ?_⟩
    have p3 := p2.put (k := i) (by omega) ⟨x.row, x.left, x.right, (i : Int)⟩
    refine Sat.region rfl ?_
    refine ⟨rfl, ((i + 1 : Nat) : Int), by rw [wrap_i64 (by omega) (by omega)]; omega, ?_⟩
    refine ⟨(i + 1, L.set i ⟨x.row, x.left, x.right, (i : Int)⟩), ⟨rfl, rfl, rfl, rfl, rfl, trivial⟩, ⟨p3, hil, by simpa using hL, fun j hj' => ?_⟩, by simp only; omega⟩
    simp only at hj' ⊢
    by_cases e : j = i
    · subst e
      rw [List.getElem?_set_self (by omega), hpi]
    · rw [List.getElem?_set_ne (by omega)]
      exact hj j (by omega)
  rintro _ h1 p1
  have okp := pcs_ok hok
  refine Sat.seq ?_
  refine Sat.region rfl ?_
  refine (init_fn (pile_iface hC hA.size h.size ls.length) p1 (fun k hk => okp _ (List.mem_of_getElem? (at_get hk))) plLe plOrd).mono ?_
  rintro u h2 ⟨l2, p2, q2, hh2⟩
  refine Sat.seq ?_
  refine Sat.region rfl ?_
  refine Sat.seq ?_
  refine Sat.region rfl ?_
  refine Sat.cut (X := List Pc × List Pc × Value × Value) (fun x => [(9, x.2.2.1), (10, x.2.2.2)])
    (fun x h' => ∃ b', PInv hC hA.size h.size ls.length b (pcs ls) b' [] x.1 x.2.1 x.2.2.1 x.2.2.2 h') ?_ ?_
  · refine Sat.block ?_
    refine Sat.loop (X := Int × List Pc × List Pc × List Pc × Value × Value) (fun x => [(1, .int .i64 x.1), (6, .pointer (some ⟨hA.size, 0, none⟩)), (9, x.2.2.2.2.1), (10, x.2.2.2.2.2)])
      (fun x h' => PInv hC hA.size h.size ls.length b (pcs ls) x.1 x.2.1 x.2.2.1 x.2.2.2.1 x.2.2.2.2.1 x.2.2.2.2.2 h') (fun x => x.2.1.length) (b, l2, [], [], .slice none 0 0, .slice none 0 0)
      ⟨rfl, rfl, rfl, rfl, trivial⟩ ⟨p2, hh2, Own.nil _ _ _ _, Own.nil _ _ _ _, by simp only [List.length_nil]; have := q2.length_eq; omega, hb, fun x hx => okp x (q2.mem_iff.1 hx), ((q2.map keyP).nodup_iff).2 (pcs_keys ls),
        fun S hS hw => ⟨S, hS.trans q2, hw, rfl⟩⟩ ?_
    rintro ⟨b3, l3, t3, f3, w9, w10⟩ h3 I3
    simp only at I3 ⊢
    have hlen := I3.len
    refine Sat.seq ?_
    refine Sat.seq ?_
    refine Sat.region rfl ?_
    refine ⟨_, by rw [I3.pile.var.cell]; rfl, ?_⟩
    refine (plen_fn h3 _ l3.length ls.length).mono ?_
    rintro u h4 ⟨rfl, rfl⟩
    refine ⟨rfl, fun h5 => ?_, fun h5 => ?_⟩
    rotate_left
    · refine Sat.cond ?_
      refine Sat.exit ?_
      have : l3 = [] := List.eq_nil_of_length_eq_zero (by omega)
      subst this
      exact ⟨(t3, f3, w9, w10), ⟨rfl, rfl, trivial⟩, b3, I3⟩
    obtain ⟨m, hm⟩ : ∃ m, l3.length = m + 1 := ⟨l3.length - 1, by omega⟩
    refine Sat.cond ?_
    refine Sat.skip ?_
    refine Sat.block ?_
    refine Sat.seq ?_
    refine Sat.region rfl ?_
    have hpop : FnS Try.prog 16 [.iface 51 (.pointer (some ⟨hA.size, 0, none⟩))] h4 fun u h' => u = .iface 49 (.agg (pcC (at_ l3 0)).toArray) ∧ PRep h4 hA.size h.size ls.length ((down plLess (swp l3 0 m) 0 m).1.take m) h' := by
      refine pop_fn (pile_iface h4 hA.size h.size ls.length) I3.pile.rebase hm (fun k _ hk => I3.ok _ (List.mem_of_getElem? (at_get hk))) ?_
      intro l' h' hr' hl' el
      have := ppop_m hr' hl'
      rw [el, at_zero_swap hm] at this
      exact this
    refine hpop.mono ?_
    rintro u h5' ⟨rfl, p5⟩
    have hperm := pop_perm (less := plLess) hm
    have hheap := pop_heap plOrd hm (fun k k0 kl _ => I3.heap k k0 kl)
    have hleast := HO.least I3.heap I3.keys hm hperm
    have hlen2 : ((down plLess (swp l3 0 m) 0 m).1.take m).length = m := by have := hperm.length_eq; simp only [List.length_append, List.length_singleton] at this; omega
    have hmem0 : at_ l3 0 ∈ l3 := List.mem_of_getElem? (at_get (by omega))
    have okx := I3.ok _ hmem0
    have hsub : ∀ y ∈ (down plLess (swp l3 0 m) 0 m).1.take m, y ∈ l3 := fun y hy => hperm.mem_iff.1 (List.mem_append_left _ hy)
    have hkeys2 : Keys ((down plLess (swp l3 0 m) 0 m).1.take m) := by
      have hk2 : Keys ((down plLess (swp l3 0 m) 0 m).1.take m ++ [at_ l3 0]) := ((hperm.map keyP).nodup_iff).2 I3.keys
      unfold Keys at hk2 ⊢
      rw [List.map_append, List.nodup_append] at hk2
      exact hk2.1
    have hstep : ∀ S, S.Perm ((down plLess (swp l3 0 m) 0 m).1.take m) → S.Pairwise plLt → (at_ l3 0 :: S).Perm l3 ∧ (at_ l3 0 :: S).Pairwise plLt := fun S hS hw =>
      ⟨((hS.cons _).trans (List.perm_append_singleton _ _).symm).trans hperm, List.pairwise_cons.2 ⟨fun y hy => hleast y (hS.mem_iff.1 hy), hw⟩⟩
    have hfar : ∀ {w : Value} {e size n : Nat} {xs : List Value}, Own h4 hC.size e size w n xs → Own h5' hC.size e size w n xs := fun ho => ho.chg p5.chg fun g' hg' e => by
      have := (ho.base_le g' hg').1
      rcases e with rfl | rfl <;> omega
    have tak5 := hfar I3.tak
    have lef5 := hfar I3.lef
    have pil5 := I3.pile.from p5
    have s5 := p5.chg.1
    have sC4 := I3.pile.chg.1
    generalize (down plLess (swp l3 0 m) 0 m).1.take m = l5 at *
    generalize at_ l3 0 = x at *
    refine ⟨rfl, ?_⟩
    obtain ⟨hD, eD⟩ : ∃ hD, hD = h5'.push (.cells #[.int .i64 0, .int .i64 0, .int .i64 0, .int .i64 0] 49) := ⟨_, rfl⟩
    have xD : Ext h5' hD := by rw [eD]; exact Ext.push h5' _
    have bD : Blk hD h5'.size 49 #[.int .i64 0, .int .i64 0, .int .i64 0, .int .i64 0] := by rw [eD]; exact Blk.new h5' _ _
    refine ⟨rfl, one_pc _, (Blk.new h5' 49 #[.int .i64 0, .int .i64 0, .int .i64 0, .int .i64 0]).okAt (by decide), ?_⟩
    obtain ⟨hE, eE⟩ : ∃ hE, hE = setRow hD ⟨h5'.size, 0, none⟩ (pcC x) 0 := ⟨_, rfl⟩
    have xE : Ext h5' hE := by rw [eE]; exact setRow_new xD (Nat.le_refl _) _ _
    have bE : Blk hE h5'.size 49 (pcC x).toArray := by rw [eE]; exact bD.whole rfl
    refine Sat.at (h' := hE) (by rw [eE, eD]; rfl) ?_
    have rx : Row hE ⟨h5'.size, 0, none⟩ [.int .i64 x.row, .int .i64 x.left, .int .i64 x.right] := bE.row.take 3
    refine Sat.seq ?_
    refine Sat.seq ?_
    refine Sat.region rfl ?_
    refine ⟨by decide, _, rfl, rx, ?_⟩
    refine (width_fn x.row x.left x.right okx.1 okx.2).mono ?_
    rintro u h6 ⟨rfl, x6⟩
    have xE6 := xE.trans x6
    have bE6 := bE.ext x6
    have hw0 := wd_nonneg okx
    have hw1 := (wid_bound okx.1 okx.2).2
    have ew : wid x.left x.right = wd x := rfl
    have hbud := I3.bud
    refine ⟨rfl, fun h7 => ?_, fun h7 => ?_⟩
    · refine Sat.cond ?_
      refine Sat.seq ?_
      refine Sat.region rfl ?_
      refine ⟨_, rfl, bE6.row, ?_⟩
      refine lit_one i46 (x := .agg (pcC x).toArray) rfl ?_
      obtain ⟨hF, eF⟩ : ∃ hF, hF = h6.push (.cells (pcC x).toArray 49) := ⟨_, rfl⟩
      have xF : Ext h6 hF := by rw [eF]; exact Ext.push h6 _
      have bF : Blk hF h6.size 49 (pcC x).toArray := by rw [eF]; exact Blk.new h6 _ _
      rw [show h6.push (.cells (Value.agg (pcC x).toArray).cells 49) = hF from eF.symm]
      have x5F := xE6.trans xF
      have lefF := lef5.ext x5F
      refine append_to i46 lefF (news := pcC x) rfl (.inr ⟨_, rfl, bF.row⟩) (one_pc x) (by omega) (by have := x5F.1; omega) ?_
      intro w10' hG oG cG hw10
      refine Sat.exit ?_
      have pilG : PRep hC hA.size h.size ls.length l5 hG := by
        refine ⟨(pil5.ext x5F).chg.then_new cG fun k hk => (lefF.base_le k hk).1, ?_, ?_, pil5.ne, pil5.lt, pil5.few⟩
        · exact (pil5.ext x5F).var.chg cG fun e => by have := (lefF.base_le _ e).1; omega
        · exact (pil5.ext x5F).own.chg cG fun g' hg' e => by injection hg' with hg'; have hg' : h.size = g' := hg'; have := (lefF.base_le _ e).1; omega
      refine ⟨(b3, l5, t3, f3 ++ [x], w9, w10'), ⟨rfl, rfl, rfl, rfl, trivial⟩, ⟨pilG, by rw [hlen2]; exact hheap, (tak5.ext x5F).chg cG (fun g' h8 h9 => (tak5.ext x5F).apart lefF (by decide) g' h8 h9), ?_, ?_, hbud, fun y hy => I3.ok y (hsub y hy), hkeys2, fun S hS hw => ?_⟩, by simp only; omega⟩
      · simp only [List.length_append, List.length_singleton, List.flatMap_append]
        simpa using oG
      · simp only [List.length_append, List.length_singleton]; omega
      · obtain ⟨h8, h9⟩ := hstep S hS hw
        obtain ⟨S0, a1, a2, a3⟩ := I3.K _ h8 h9
        refine ⟨S0, a1, a2, ?_⟩
        rw [a3, show run b3 (x :: S) = ((run b3 S).1, x :: (run b3 S).2) by rw [run, if_neg (by omega)]]
        simp
    · refine Sat.cond ?_
      refine Sat.skip ?_
      refine Sat.seq ?_
      refine Sat.region rfl ?_
      have rx6 : Row h6 ⟨h5'.size, 0, none⟩ [.int .i64 x.row, .int .i64 x.left, .int .i64 x.right] := rx.ext x6
      refine ⟨by decide, _, rfl, rx6, ?_⟩
      refine (width_fn x.row x.left x.right okx.1 okx.2).mono ?_
      rintro u h8 ⟨rfl, x8⟩
      refine ⟨rfl, b3 - wd x, wrap_i64 (by omega) (by omega), ?_⟩
      refine Sat.region rfl ?_
      have xE8 := xE6.trans x8
      refine ⟨by decide, _, rfl, rx6.ext x8, ?_⟩
      refine lit_one i27 (x := .agg (pcS x).toArray) rfl ?_
      obtain ⟨hF, eF⟩ : ∃ hF, hF = h8.push (.cells (pcS x).toArray 35) := ⟨_, rfl⟩
      have xF : Ext h8 hF := by rw [eF]; exact Ext.push h8 _
      have bF : Blk hF h8.size 35 (pcS x).toArray := by rw [eF]; exact Blk.new h8 _ _
      rw [show h8.push (.cells (Value.agg (pcS x).toArray).cells 35) = hF from eF.symm]
      have x5F := xE8.trans xF
      have takF := tak5.ext x5F
      refine append_to i27 takF (news := pcS x) rfl (.inr ⟨_, rfl, bF.row⟩) (one_pcS x) (by omega) (by have := x5F.1; omega) ?_
      intro w9' hG oG cG hw9
      have pilG : PRep hC hA.size h.size ls.length l5 hG := by
        refine ⟨(pil5.ext x5F).chg.then_new cG fun k hk => (takF.base_le k hk).1, ?_, ?_, pil5.ne, pil5.lt, pil5.few⟩
        · exact (pil5.ext x5F).var.chg cG fun e => by have := (takF.base_le _ e).1; omega
        · exact (pil5.ext x5F).own.chg cG fun g' hg' e => by injection hg' with hg'; have hg' : h.size = g' := hg'; have := (takF.base_le _ e).1; omega
      refine ⟨(b3 - wd x, l5, t3 ++ [x], f3, w9', w10), ⟨rfl, rfl, rfl, rfl, trivial⟩, ⟨pilG, by rw [hlen2]; exact hheap, ?_, (lef5.ext x5F).chg cG (fun g' h8 h9 => (lef5.ext x5F).apart takF (by decide) g' h8 h9), ?_, by simp only; omega, fun y hy => I3.ok y (hsub y hy), hkeys2, fun S hS hw => ?_⟩, by simp only; omega⟩
      · simp only [List.length_append, List.length_singleton, List.flatMap_append]
        simpa using oG
      · simp only [List.length_append, List.length_singleton]; omega
      · obtain ⟨h8, h9⟩ := hstep S hS hw
        obtain ⟨S0, a1, a2, a3⟩ := I3.K _ h8 h9
        refine ⟨S0, a1, a2, ?_⟩
        rw [a3, show run b3 (x :: S) = (x :: (run (b3 - wd x) S).1, (run (b3 - wd x) S).2) by rw [run, if_pos (by omega)]]
        simp
  rintro ⟨t3, f3, w9, w10⟩ h3 ⟨b3, I3⟩
  simp only at I3 ⊢
  have hlen := I3.len
  obtain ⟨S0, a1, a2, a3⟩ := I3.K [] (.refl _) .nil
  simp only [run, List.append_nil] at a3
  have keyF : Keys f3 := by
    have h8 : (t3 ++ f3).Perm (pcs ls) := by have := run_perm b S0; rw [a3] at this; exact this.trans a1
    have h9 : Keys (t3 ++ f3) := ((h8.map keyP).nodup_iff).2 (pcs_keys ls)
    unfold Keys at h9 ⊢
    rw [List.map_append, List.nodup_append] at h9
    exact h9.2.1
  have xh3 : Ext h h3 := xC.then_new I3.pile.chg fun k hk => by rcases hk with rfl | rfl <;> omega
  refine Sat.seq ?_
  refine Sat.region rfl ?_
  refine (sort_any I3.lef keyF (by omega)).mono ?_
  rintro u h4 ⟨f4, ⟨Af, cf, rfl, hpf⟩, q4, w4, c4⟩
  have hl4 := q4.length_eq
  have xh4 : Ext h h4 := xh3.then_new c4 fun k hk => by have := (I3.lef.base_le k hk).1; have := xC.1; omega
  have tak4 := I3.tak.chg c4 fun g' h8 h9 => I3.tak.apart I3.lef (by decide) g' h8 h9
  refine Sat.seq ?_
  refine Sat.region rfl ?_
  refine Sat.cut (X := Value) (fun v12 => [(9, w9), (12, v12)]) (fun v12 h' => Ext h4 h' ∧ Own h' h4.size 35 3 v12 f4.length (f4.flatMap pcS)) ?_ ?_
  · refine Sat.seq ?_
    refine Sat.region rfl ?_
    refine Sat.block ?_
    refine Sat.loop (X := Nat × Value) (fun x => [(9, w9), (61, .slice Af f4.length cf), (62, .int .i64 (f4.length : Int)), (63, .int .i64 (x.1 : Int)), (12, x.2)]) (fun x h' => Ext h4 h' ∧ x.1 ≤ f4.length ∧ Own h' h4.size 35 3 x.2 x.1 ((f4.take x.1).flatMap pcS)) (fun x => f4.length - x.1) (0, .slice none 0 0)
      ⟨rfl, rfl, rfl, rfl, rfl, trivial⟩ ⟨Ext.refl _, Nat.zero_le _, Own.nil _ _ _ _⟩ ?_
    rintro ⟨i, v12⟩ h5 ⟨x5, hi, o5⟩
    simp only at x5 hi o5 ⊢
    refine Sat.seq ?_
    refine Sat.region rfl ?_
    refine ⟨rfl, fun h6 => ?_, fun h6 => ?_⟩
    rotate_left
    · refine Sat.seq ?_
      refine Sat.cond ?_
      refine Sat.exit ?_
      have : i = f4.length := by omega
      subst this
      rw [List.take_length] at o5
      exact ⟨v12, ⟨rfl, rfl, trivial⟩, x5, o5⟩
    have hil : i < f4.length := by omega
    refine Sat.seq ?_
    refine Sat.cond ?_
    refine Sat.skip ?_
    obtain ⟨p, rfl, hp⟩ : ∃ p, Af = some p ∧ ∀ (k : Nat) x, f4[k]? = some x → Row h4 (p.add (k * 4)) (pcC x) := by
      rcases hpf with h0 | h0
      · subst h0; simp at hil
      · exact h0
    have hx := (hp i _ (List.getElem?_eq_getElem hil)).ext x5
    have htk : f4.take (i + 1) = f4.take i ++ [f4[i]] := List.take_succ_eq_append_getElem hil
    generalize f4[i] = x at *
    refine Sat.seq ?_
    refine Sat.block ?_
    refine Sat.seq ?_
    refine Sat.region rfl ?_
    refine ⟨p, i, rfl, rfl, hil, _, rfl, hx, ?_⟩
    obtain ⟨hD, eD⟩ : ∃ hD, hD = h5.push (.cells #[.int .i64 0, .int .i64 0, .int .i64 0, .int .i64 0] 49) := ⟨_, rfl⟩
    have xD : Ext h5 hD := by rw [eD]; exact Ext.push h5 _
    have bD : Blk hD h5.size 49 #[.int .i64 0, .int .i64 0, .int .i64 0, .int .i64 0] := by rw [eD]; exact Blk.new h5 _ _
    refine ⟨rfl, one_pc _, (Blk.new h5 49 #[.int .i64 0, .int .i64 0, .int .i64 0, .int .i64 0]).okAt (by decide), ?_⟩
    obtain ⟨hE, eE⟩ : ∃ hE, hE = setRow hD ⟨h5.size, 0, none⟩ (pcC x) 0 := ⟨_, rfl⟩
    have xE : Ext h5 hE := by rw [eE]; exact setRow_new xD (Nat.le_refl _) _ _
    have bE : Blk hE h5.size 49 (pcC x).toArray := by rw [eE]; exact bD.whole rfl
    refine Sat.at (h' := hE) (by rw [eE, eD]; rfl) ?_
    have rx : Row hE ⟨h5.size, 0, none⟩ [.int .i64 x.row, .int .i64 x.left, .int .i64 x.right] := bE.row.take 3
    refine Sat.region rfl ?_
    refine ⟨by decide, _, rfl, rx, ?_⟩
    refine lit_one i27 (x := .agg (pcS x).toArray) rfl ?_
    obtain ⟨hF, eF⟩ : ∃ hF, hF = hE.push (.cells (pcS x).toArray 35) := ⟨_, rfl⟩
    have xF : Ext hE hF := by rw [eF]; exact Ext.push hE _
    have bF : Blk hF hE.size 35 (pcS x).toArray := by rw [eF]; exact Blk.new hE _ _
    rw [show hE.push (.cells (Value.agg (pcS x).toArray).cells 35) = hF from eF.symm]
    have x5F := xE.trans xF
    have o5F := o5.ext x5F
    refine append_to i27 o5F (news := pcS x) rfl (.inr ⟨_, rfl, bF.row⟩) (one_pcS x) (by omega) (by have := x5.1; have := x5F.1; omega) ?_
    intro v12' hG oG cG _
    refine Sat.region rfl ?_
    refine ⟨rfl, ((i + 1 : Nat) : Int), by rw [wrap_i64 (by omega) (by omega)]; omega, ?_⟩
    refine ⟨(i + 1, v12'), ⟨rfl, rfl, rfl, rfl, rfl, trivial⟩, ⟨(x5.trans x5F).then_new cG fun k hk => (o5F.base_le k hk).1, hil, ?_⟩, by simp only; omega⟩
    simp only
    rw [htk, List.flatMap_append]
    simpa using oG
  rintro v12 h5 ⟨x5, o5⟩
  refine Sat.seq ?_
  refine Sat.region rfl ?_
  refine Sat.ret ?_
  obtain ⟨r, r1, r2, r3⟩ := plans S0 b [] (pcs ls) a2 (fun x hx => okp x (a1.mem_iff.1 hx)) (fun x hx => by cases hx) (by rw [List.append_nil]; exact a1.symm)
  rw [a3] at r1 r2
  simp only [List.append_nil] at r2
  have hrf : r = f4 := byAt_unique (r2.trans q4.symm) ((pcs_sorted ls).sublist r3) w4
  subst hrf
  have hC1 := xC.1
  exact ⟨xh4.trans x5, w9, v12, t3, r, rfl, r1, (tak4.ext x5).mono (by omega), o5.mono xh4.1⟩
end Go.Proofs.Ytobjkcmiicflmaa
