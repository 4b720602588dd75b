/- Steps, twice; Told; Same. -/
import Derived.Test.YtiheebgoadmomaaO1
import Derived.Laws.StructEq
set_option maxRecDepth 100000
set_option linter.unusedVariables false
namespace Go.Proofs.Ytiheebgoadmomaa
open Go Go.V Go.V.Heaps

/-- How often the number changes among the first i. -/
def chg (ns : List Nat) : Nat → Nat
  | 0 => 0
  | i + 1 => chg ns i + if 0 < i ∧ ns[i]? ≠ ns[i - 1]? then 1 else 0
theorem chg_le (ns : List Nat) : ∀ i, chg ns i ≤ i
  | 0 => Nat.le_refl _
  | i + 1 => by
    have := chg_le ns i
    simp only [chg]
    split <;> omega

theorem steps_fn {h : Heap} {v : Value} {ls : List (List It)} (hs : SrcsV h v ls) (hlen : ls.length ≤ 100000) (htot : total ls ≤ 1000000) (hbig : ∀ l ∈ ls, ∀ x ∈ l, x.data.length ≤ 1000000000)
    {o : List (It × Nat)} (hmo : Merges It.at_ ls o) : FnS Try.prog 10 [v] h fun u h' => u = .int .i64 (chg (o.map (·.2)) o.length : Int) ∧ Ext h h' := by
  refine FnS.intro Try.func10 rfl rfl rfl ?_
  refine Sat.seq ?_
  refine Sat.region rfl ?_
  refine Sat.seq ?_
  refine Sat.region rfl ?_
  refine Sat.seq ?_
  refine Sat.seq ?_
  refine Sat.region rfl ?_
  refine (merge_fn hs hlen htot hbig).mono ?_
  rintro u hM ⟨xM, outs, oM, hdO, hm⟩
  have he := Merges.unique It.at_ hm hmo
  have hol : outs.length = o.length := by rw [← he, List.length_map]
  have hnum : ∀ (i : Nat) (a : It × Value × Nat), outs[i]? = some a → (o.map (·.2))[i]? = some a.2.2 := fun i a ha => by
    rw [← he]
    simp [ha]
  have hsum := Merges.length It.at_ hmo
  generalize hns : o.map (·.2) = ns at *
  rw [← hol]
  obtain ⟨B, c, rfl, _⟩ := oM.slice
  have hol6 : outs.length ≤ 1000000 := by omega
  refine Sat.block ?_
  refine Sat.loop (X := Nat × Int) (fun x => [(3, .int .i64 (chg ns x.1 : Int)), (4, .int .i64 x.2), (8, .slice B outs.length c), (9, .int .i64 (outs.length : Int)), (10, .int .i64 (x.1 : Int))])
    (fun x h' => Ext hM h' ∧ x.1 ≤ outs.length ∧ ((x.1 = 0 ∧ x.2 = -1) ∨ (0 < x.1 ∧ ∃ a, outs[x.1 - 1]? = some a ∧ x.2 = (a.2.2 : Int)))) (fun x => outs.length - x.1) (0, -1)
    ⟨rfl, rfl, rfl, rfl, rfl, trivial⟩ ⟨Ext.refl _, Nat.zero_le _, .inl ⟨rfl, rfl⟩⟩ ?_
  rintro ⟨i, last⟩ h1 ⟨x1, hi, hlast⟩
  simp only at x1 hi hlast ⊢
  refine Sat.seq ?_
  refine Sat.region rfl ?_
  refine ⟨rfl, fun h2 => ?_, fun h2 => ?_⟩
  rotate_left
  · refine Sat.seq ?_
    refine Sat.cond ?_
    refine Sat.exit ?_
    have : i = outs.length := by omega
    subst this
    refine Sat.seq ?_
    refine Sat.region rfl ?_
    refine Sat.ret ?_
    exact ⟨rfl, xM.trans x1⟩
  have hil : i < outs.length := by omega
  obtain ⟨g, cg, e3, _, _, hrow, _⟩ := oM.ptr (by omega)
  injection e3 with e3 _ _
  subst e3
  have hai : outs[i]? = some outs[i] := List.getElem?_eq_getElem hil
  have hra := (hrow.elem plC_len hai).ext x1
  have hna := hnum i _ hai
  have dv1 : outs[i].2.1.oneCell' = true := by obtain ⟨_, _, e, _⟩ := (hdO _ (List.mem_of_getElem? hai)).slice; rw [e]; rfl
  generalize outs[i] = a at *
  have hcs := chg_le ns i
  refine Sat.seq ?_
  refine Sat.cond ?_
  refine Sat.skip ?_
  refine Sat.cut (X := Unit) (fun _ => [(3, .int .i64 (chg ns (i + 1) : Int)), (4, .int .i64 (a.2.2 : Int)), (8, .slice (some ⟨g, 0, none⟩) outs.length c), (9, .int .i64 (outs.length : Int)), (10, .int .i64 (i : Int))]) (fun _ h2 => Ext hM h2) ?_ ?_
  rotate_left
  · rintro _ h2 x2
    refine Sat.region rfl ?_
    refine ⟨rfl, ((i + 1 : Nat) : Int), by rw [wrap_i64 (by omega) (by omega)]; omega, ?_⟩
    exact ⟨(i + 1, (a.2.2 : Int)), ⟨rfl, rfl, rfl, rfl, rfl, trivial⟩, ⟨x2, hil, .inr ⟨by simp, a, by simpa using hai, rfl⟩⟩, by simp only; omega⟩
  refine Sat.block ?_
  refine Sat.seq ?_
  refine Sat.region rfl ?_
  refine ⟨⟨g, 0, none⟩, i, rfl, rfl, hil, _, rfl, hra, ?_⟩
  obtain ⟨hA, eA⟩ : ∃ hA, hA = h1.push (.cells #[.int .i64 0, .int .i64 0, .slice none 0 0, .int .i64 0, .int .u8 0, .bool false, .bool false, .int .i64 0, .int .i64 0, .int .i64 0] 39) := ⟨_, rfl⟩
  have xA : Ext h1 hA := by rw [eA]; exact Ext.push h1 _
  have bA : Blk hA h1.size 39 #[.int .i64 0, .int .i64 0, .slice none 0 0, .int .i64 0, .int .u8 0, .bool false, .bool false, .int .i64 0, .int .i64 0, .int .i64 0] := by rw [eA]; exact Blk.new h1 _ _
  refine ⟨rfl, one_pl a dv1, (Blk.new h1 39 #[.int .i64 0, .int .i64 0, .slice none 0 0, .int .i64 0, .int .u8 0, .bool false, .bool false, .int .i64 0, .int .i64 0, .int .i64 0]).okAt (by decide), ?_⟩
  obtain ⟨hB, eB⟩ : ∃ hB, hB = setRow hA ⟨h1.size, 0, none⟩ (plC a) 0 := ⟨_, rfl⟩
  have xB : Ext h1 hB := by rw [eB]; exact setRow_new xA (Nat.le_refl _) _ _
  have bB : Blk hB h1.size 39 (plC a).toArray := by rw [eB]; exact bA.whole rfl
  have xMB := x1.trans xB
  refine Sat.at (h' := hB) (by rw [eB, eA]; rfl) ?_
  refine Sat.cut (X := Unit) (fun _ => [(3, .int .i64 (chg ns (i + 1) : Int)), (6, .pointer (some ⟨h1.size, 0, none⟩)), (8, .slice (some ⟨g, 0, none⟩) outs.length c), (9, .int .i64 (outs.length : Int)), (10, .int .i64 (i : Int))]) (fun _ h2 => h2 = hB) ?_ ?_
  rotate_left
  · rintro _ h2 rfl
    refine Sat.region rfl ?_
    refine ⟨by decide, .int .i64 (a.2.2 : Int), bB.cell 9, ?_⟩
    exact ⟨(), ⟨rfl, rfl, rfl, rfl, rfl, trivial⟩, xMB⟩
  refine Sat.seq ?_
  refine Sat.region rfl ?_
  refine ⟨rfl, fun h3 => ?_, fun h3 => ?_⟩
  rotate_left
  · have h0 : i = 0 := by
      rcases hlast with ⟨h0, _⟩ | ⟨_, b, _, e⟩
      · exact h0
      · omega
    refine Sat.cond ?_
    refine Sat.skip ?_
    refine ⟨(), ⟨?_, rfl, rfl, rfl, rfl, trivial⟩, rfl⟩
    subst h0
    rfl
  obtain ⟨h0, b, hb, e⟩ : 0 < i ∧ ∃ b, outs[i - 1]? = some b ∧ last = (b.2.2 : Int) := by
    rcases hlast with ⟨_, e⟩ | h0
    · omega
    · exact h0
  subst e
  have hnb := hnum _ b hb
  refine ⟨by decide, .int .i64 (a.2.2 : Int), bB.cell 9, rfl, fun h4 => ?_, fun h4 => ?_⟩
  · refine Sat.cond ?_
    refine Sat.region rfl ?_
    have e1 : chg ns (i + 1) = chg ns i + 1 := by
      simp only [chg]
      rw [if_pos ⟨h0, by rw [hna, hnb]; intro h; injection h with h; omega⟩]
    refine ⟨rfl, (chg ns (i + 1) : Int), by rw [wrap_i64 (by omega) (by omega)]; omega, ?_⟩
    exact ⟨(), ⟨rfl, rfl, rfl, rfl, rfl, trivial⟩, rfl⟩
  · refine Sat.cond ?_
    refine Sat.skip ?_
    have e1 : chg ns (i + 1) = chg ns i := by
      simp only [chg]
      rw [if_neg (by rw [hna, hnb]; intro h; exact h.2 (by congr 1; omega))]
      rfl
    refine ⟨(), ⟨?_, rfl, rfl, rfl, rfl, trivial⟩, rfl⟩
    rw [e1]; rfl

theorem refSteps_fn {h : Heap} {base : Nat} {v : Value} {outs : List (It × Value × Nat)} (ho : Own h base 46 10 v outs.length (outs.flatMap plC)) (hol6 : outs.length ≤ 1000000) :
    FnS Try.prog 11 [v] h fun u h' => u = .int .i64 (chg (outs.map (·.2.2)) outs.length : Int) ∧ h' = h := by
  obtain ⟨B, c, rfl, _⟩ := ho.slice
  have hnum : ∀ (i : Nat) (a : It × Value × Nat), outs[i]? = some a → (outs.map (·.2.2))[i]? = some a.2.2 := fun i a ha => by simp [ha]
  generalize hns : outs.map (·.2.2) = ns at *
  refine FnS.intro Try.func11 rfl rfl rfl ?_
  refine Sat.seq ?_
  refine Sat.region rfl ?_
  refine Sat.seq ?_
  refine Sat.region rfl ?_
  have fin : ∀ (n : Nat) e, n = outs.length → Sub [(3, .int .i64 (chg ns n : Int))] e → True := fun _ _ _ _ => trivial
  refine Sat.cut (X := Unit) (fun _ => [(3, .int .i64 (chg ns outs.length : Int))]) (fun _ h' => h' = h) ?_ ?_
  rotate_left
  · rintro _ h' rfl
    refine Sat.seq ?_
    refine Sat.region rfl ?_
    refine Sat.ret ?_
    exact ⟨rfl, rfl⟩
  refine Sat.seq ?_
  refine Sat.region rfl ?_
  refine Sat.block ?_
  refine Sat.loop (X := Nat) (fun i => [(0, .slice B outs.length c), (3, .int .i64 (chg ns (i + 1) : Int)), (4, .int .i64 ((i + 1 : Nat) : Int))]) (fun i h' => h' = h ∧ (i = 0 ∨ i + 1 ≤ outs.length)) (fun i => outs.length - i) 0
    ⟨rfl, rfl, rfl, trivial⟩ ⟨rfl, .inl rfl⟩ ?_
  rintro i h' ⟨rfl, hi⟩
  refine Sat.seq ?_
  refine Sat.seq ?_
  refine Sat.region rfl ?_
  refine ⟨rfl, fun h2 => ?_, fun h2 => ?_⟩
  rotate_left
  · refine Sat.cond ?_
    refine Sat.exit ?_
    refine ⟨(), ⟨?_, trivial⟩, rfl⟩
    have : chg ns (i + 1) = chg ns outs.length := by
      rcases hi with rfl | hi
      · have : outs.length = 0 ∨ outs.length = 1 := by omega
        rcases this with e | e <;> rw [e] <;> rfl
      · congr 1; omega
    rw [← this]; rfl
  have hil : i + 1 < outs.length := by omega
  refine Sat.cond ?_
  refine Sat.skip ?_
  obtain ⟨g, cg, e3, _, _, hrow, _⟩ := ho.ptr (by omega)
  injection e3 with e3 _ _
  subst e3
  have ha : outs[i + 1]? = some outs[i + 1] := List.getElem?_eq_getElem hil
  have hb : outs[i]? = some (outs[i]'(by omega)) := List.getElem?_eq_getElem (by omega)
  have hna := hnum _ _ ha
  have hnb := hnum _ _ hb
  have ra := hrow.elem plC_len ha 9 (.int .i64 (outs[i + 1].2.2 : Int)) rfl
  have rb := hrow.elem plC_len hb 9 (.int .i64 ((outs[i]'(by omega)).2.2 : Int)) rfl
  have hcs := chg_le ns (i + 1)
  refine Sat.cut (X := Unit) (fun _ => [(0, .slice (some ⟨g, 0, none⟩) outs.length c), (3, .int .i64 (chg ns (i + 1 + 1) : Int)), (4, .int .i64 ((i + 1 : Nat) : Int))]) (fun _ h2 => h2 = h') ?_ ?_
  rotate_left
  · rintro _ h2 rfl
    refine Sat.region rfl ?_
    refine ⟨rfl, ((i + 1 + 1 : Nat) : Int), by rw [wrap_i64 (by omega) (by omega)]; omega, ?_⟩
    exact ⟨i + 1, ⟨rfl, rfl, rfl, trivial⟩, ⟨rfl, .inr (by omega)⟩, by omega⟩
  refine Sat.block ?_
  refine Sat.seq ?_
  refine Sat.drawn .plain rfl (by kernel_rfl) ?_
  refine ⟨⟨g, 0, none⟩, i + 1, rfl, rfl, hil, by decide, _, ra, rfl, (i : Int), by rw [wrap_i64 (by omega) (by omega)]; omega, ⟨g, 0, none⟩, i, rfl, rfl, by omega, by decide, _, rb, rfl, fun h4 => ?_, fun h4 => ?_⟩
  · refine Sat.cond ?_
    refine Sat.region rfl ?_
    have e1 : chg ns (i + 1 + 1) = chg ns (i + 1) + 1 := by
      rw [chg]
      rw [if_pos ⟨by omega, by rw [hna, Nat.add_sub_cancel, hnb]; intro h; injection h with h; omega⟩]
    refine ⟨rfl, (chg ns (i + 1 + 1) : Int), by rw [wrap_i64 (by omega) (by omega)]; omega, ?_⟩
    exact ⟨(), ⟨rfl, rfl, rfl, trivial⟩, rfl⟩
  · refine Sat.cond ?_
    refine Sat.skip ?_
    have e1 : chg ns (i + 1 + 1) = chg ns (i + 1) := by
      rw [chg]
      rw [if_neg (by rw [hna, Nat.add_sub_cancel, hnb]; intro h; exact h.2 (by congr 1; omega))]
      rfl
    refine ⟨(), ⟨rfl, ?_, rfl, trivial⟩, rfl⟩
    rw [e1]; rfl

theorem told_fn {h : Heap} {x : It} {dv : Value} (hd : ∃ A n c, dv = .slice A n c) : FnS Try.prog 13 [.agg (itC x dv).toArray] h fun u h' => u = .agg (itC x dv).toArray ∧ Ext h h' := by
  obtain ⟨A, n, c, rfl⟩ := hd
  refine FnS.intro Try.func13 rfl rfl rfl ?_
  refine Sat.seq ?_
  refine Sat.region rfl ?_
  obtain ⟨hA, eA⟩ : ∃ hA, hA = h.push (.cells (itC x (.slice A n c)).toArray 37) := ⟨_, rfl⟩
  have xA : Ext h hA := by rw [eA]; exact Ext.push h _
  have bA : Blk hA h.size 37 (itC x (.slice A n c)).toArray := by rw [eA]; exact Blk.new h _ _
  obtain ⟨hB, eB⟩ : ∃ hB, hB = hA.push (.cells #[.int .i64 0, .int .i64 0, .slice none 0 0, .int .i64 0, .int .u8 0, .bool false, .bool false, .int .i64 0, .int .i64 0] 30) := ⟨_, rfl⟩
  have xB : Ext hA hB := by rw [eB]; exact Ext.push hA _
  have bB : Blk hB hA.size 30 #[.int .i64 0, .int .i64 0, .slice none 0 0, .int .i64 0, .int .u8 0, .bool false, .bool false, .int .i64 0, .int .i64 0] := by rw [eB]; exact Blk.new hA _ _
  have bA2 := bA.ext xB
  refine Sat.at (h' := hB) (by rw [eB, eA]; rfl) ?_
  have e1 : (h.push (.cells (Value.agg (itC x (.slice A n c)).toArray).cells 37)).size = hA.size := by rw [eA]; rfl
  rw [e1]
  have sA : hA.size = h.size + 1 := by rw [eA, Array.size_push]
  refine Sat.seq ?_
  refine Sat.region rfl ?_
  refine ⟨by decide, _, bA2.cell 0, by decide, _, bA2.cell 1, by decide, _, bA2.cell 2, by decide, by decide, _, bA2.cell 3, by decide, by decide, _, bA2.cell 4, by decide, by decide, _, bA2.cell 5, by decide, by decide, _, bA2.cell 6, ?_⟩
  refine build_strct rfl rfl rfl (cells := (evC x).toArray) (by kernel_rfl) ?_
  refine ⟨by decide, _, bA2.cell 7, by decide, _, bA2.cell 8, ?_⟩
  refine build_strct rfl rfl rfl (cells := (itC x (.slice A n c)).toArray) (by kernel_rfl) ?_
  refine ⟨rfl, one_it x rfl, bB.okAt (by decide), ?_⟩
  refine Sat.ret ?_
  refine ⟨_, rfl, (bB.whole (vs := itC x (.slice A n c)) rfl).row, ?_⟩
  exact ⟨rfl, setRow_new (xA.trans xB) (by omega) _ _⟩

theorem eq_ev {xo yo : Operand} (x : It) {F : Value → Prop} (hF : F (.bool true)) : veqAny Try.prog .eql 28 xo yo (.agg (evC x).toArray) (.agg (evC x).toArray) F := by
  refine ⟨.bool true, fun w => ?_, hF⟩
  have hg : Try.prog.eqGuardType Try.prog.depth 28 = false := by kernel_rfl
  have hf : Try.prog.fieldsOf 28 = #[⟨"Kind", 3, 0, false, "", "", 0⟩, ⟨"Code", 5, 1, false, "", "", 8⟩, ⟨"Shift", 4, 2, false, "", "", 9⟩, ⟨"Ctrl", 4, 3, false, "", "", 10⟩] := by unfold Program.fieldsOf; rw [Try.underlying28]
  have hu : Try.prog.underlying 28 = some (.struct (Try.prog.fieldsOf 28)) := by rw [hf, Try.underlying28]
  have hp : Try.prog.stoodInHeld 28 = false := by kernel_rfl
  have pt : ∀ (t off : Nat) (v : Value), vfield Try.prog t (evC x).toArray off (fun u => u = v) → ∀ w : World, (part t (evC x).toArray off).run Try.prog w = .ok v w := fun t off v hv w => by
    obtain ⟨u, rfl, hu⟩ := vfield_run hv
    exact hu w
  simp only [Sem.run_bind, run_eqGuard_agg w .eql 28 xo yo _ _ hg, Result.andThen_ok, run_eql_struct, run_equalIn_struct w 9999 28 _ _ hu hp, hf]
  simp [Op.eqFields, pt 3 0 (.int .i64 x.ek) rfl, pt 5 1 (.int .u8 x.ec) rfl, pt 4 2 (.bool x.sh) rfl, pt 4 3 (.bool x.ct) rfl, run_equalIn_int w 9998 3 .i64 .i64 _ _ Try.underlying3, run_equalIn_int w 9998 5 .u8 .u8 _ _ Try.underlying5, run_equalIn_bool' w 9998 4 _ _ Try.underlying4]

theorem same_fn {h : Heap} {x : It} {dv dw : Value} (h1 : BytesAt h dv x.data) (h2 : BytesAt h dw x.data) : FnS Try.prog 12 [.agg (itC x dv).toArray, .agg (itC x dw).toArray] h fun u h' => u = .bool true ∧ Ext h h' := by
  obtain ⟨A, c, rfl, _, _⟩ := id h1
  obtain ⟨A', c', rfl, _, _⟩ := id h2
  refine FnS.intro Try.func12 rfl rfl rfl ?_
  refine Sat.seq ?_
  refine Sat.region rfl ?_
  obtain ⟨hA, eA⟩ : ∃ hA, hA = h.push (.cells (itC x (.slice A x.data.length c)).toArray 30) := ⟨_, rfl⟩
  have xA : Ext h hA := by rw [eA]; exact Ext.push h _
  have bA : Blk hA h.size 30 (itC x (.slice A x.data.length c)).toArray := by rw [eA]; exact Blk.new h _ _
  obtain ⟨hB, eB⟩ : ∃ hB, hB = hA.push (.cells (itC x (.slice A' x.data.length c')).toArray 30) := ⟨_, rfl⟩
  have xB : Ext hA hB := by rw [eB]; exact Ext.push hA _
  have bB : Blk hB hA.size 30 (itC x (.slice A' x.data.length c')).toArray := by rw [eB]; exact Blk.new hA _ _
  have bA2 := bA.ext xB
  have xhB := xA.trans xB
  refine Sat.at (h' := hB) (by rw [eB, eA]; rfl) ?_
  have e1 : (h.push (.cells (Value.agg (itC x (.slice A x.data.length c)).toArray).cells 30)).size = hA.size := by rw [eA]; rfl
  rw [e1]
  refine Sat.seq ?_
  refine Sat.region rfl ?_
  have rA : Row hB ⟨h.size, 3, none⟩ (evC x) := fun j v hj => by
    have := bA2.row (3 + j) v
    rw [add_plain] at this ⊢
    refine (congrArg (cellH hB) (by simp)).trans (this ?_)
    show (itC x (.slice A x.data.length c))[3 + j]? = some v
    have : (itC x (.slice A x.data.length c)).drop 3 = evC x ++ [.int .i64 x.rows, .int .i64 x.cols] := rfl
    rw [← List.getElem?_drop, this, List.getElem?_append_left (List.getElem?_eq_some_iff.1 hj).1]
    exact hj
  have rB : Row hB ⟨hA.size, 3, none⟩ (evC x) := fun j v hj => by
    have := bB.row (3 + j) v
    rw [add_plain] at this ⊢
    refine (congrArg (cellH hB) (by simp)).trans (this ?_)
    show (itC x (.slice A' x.data.length c'))[3 + j]? = some v
    have : (itC x (.slice A' x.data.length c')).drop 3 = evC x ++ [.int .i64 x.rows, .int .i64 x.cols] := rfl
    rw [← List.getElem?_drop, this, List.getElem?_append_left (List.getElem?_eq_some_iff.1 hj).1]
    exact hj
  refine ⟨by decide, _, bA2.cell 0, by decide, _, bB.cell 0, rfl, fun _ => ?_, fun h => absurd rfl h⟩
  refine ⟨by decide, _, bA2.cell 1, by decide, _, bB.cell 1, rfl, fun _ => ?_, fun h => absurd rfl h⟩
  refine ⟨by decide, .slice A x.data.length c, bA2.cell 2, ?_⟩
  refine conv_bytes rfl rfl rfl rfl rfl rfl (h1.ext xhB) ?_
  refine ⟨by decide, .slice A' x.data.length c', bB.cell 2, ?_⟩
  refine conv_bytes rfl rfl rfl rfl rfl rfl (h2.ext xhB) ?_
  refine ⟨fun _ => ?_, fun h => absurd rfl h⟩
  refine ⟨by decide, _, rfl, rA, by decide, _, rfl, rB, ?_⟩
  refine eq_ev x ?_
  refine ⟨by decide, _, bA2.cell 7, by decide, _, bB.cell 7, rfl, fun _ => ?_, fun h => absurd rfl h⟩
  refine ⟨by decide, _, bA2.cell 8, by decide, _, bB.cell 8, rfl, fun _ => ?_, fun h => absurd rfl h⟩
  refine Sat.ret ?_
  exact ⟨rfl, xhB⟩
end Go.Proofs.Ytiheebgoadmomaa
