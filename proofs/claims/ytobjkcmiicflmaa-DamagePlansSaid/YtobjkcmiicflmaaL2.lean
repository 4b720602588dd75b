/- slices.Repeat of one cell; new lines, copies of lines, spans and parts of them. -/
import Derived.Test.YtobjkcmiicflmaaL1
set_option maxRecDepth 100000
set_option linter.unusedVariables false
namespace Go.Proofs.Ytobjkcmiicflmaa
open Go Go.V

theorem madeCells_cels (n : Nat) : (madeCells (Value.agg #[.int .i32 0, .int .u8 0, .bool false]).cells (n * 3)).toList = (List.replicate n (default : Cel)).flatMap celC := by
  apply List.ext_getElem?
  intro j
  by_cases hj : j < n * 3
  · have h1 : j / 3 < n := by omega
    have hf := flat_at celC_len (l := List.replicate n (default : Cel)) (k := j / 3) (x := default) (by rw [List.getElem?_replicate, if_pos h1])
    have h2 : ((List.replicate n (default : Cel)).flatMap celC)[j]? = (celC default)[j % 3]? := by
      rw [← hf, List.getElem?_take, if_pos (Nat.mod_lt _ (by decide)), List.getElem?_drop]
      congr 1; omega
    rw [h2, Array.getElem?_toList]
    simp only [madeCells, Array.getElem?_map, Array.getElem?_range, hj, if_true, Option.map_some]
    rcases (show j % 3 = 0 ∨ j % 3 = 1 ∨ j % 3 = 2 by omega) with e | e | e <;> simp [Value.cells, e, celC, default]
  · rw [List.getElem?_eq_none (by simp [size_madeCells]; omega), List.getElem?_eq_none (by rw [flat_length celC_len]; simp; omega)]

theorem made_own {h h' : Heap} {g n : Nat} (nw : New h g h' 44 (madeCells (Value.agg #[.int .i32 0, .int .u8 0, .bool false]).cells (n * 3))) (hn : n ≤ 1000000) :
    Own h' h.size 44 3 (.slice (some ⟨g, 0, none⟩) n n) n ((List.replicate n (default : Cel)).flatMap celC) := by
  refine ⟨by rw [flat_length celC_len, List.length_replicate], .inr ⟨g, n, _, rfl, by rw [nw.is]; exact Nat.le_refl _, nw.blk, Nat.le_refl _, by simp only [maxLen]; omega, size_madeCells _ _, ?_⟩⟩
  rw [madeCells_cels, List.take_of_length_le (by rw [flat_length celC_len, List.length_replicate]; exact Nat.le_refl _)]

theorem makeCells {n : Nat} {k1 k2 : IntKind} (hn : n ≤ 1000000) {h : Heap} {K : Value → Heap → Prop} (hK : ∀ g h', New h g h' 44 (madeCells (Value.agg #[.int .i32 0, .int .u8 0, .bool false]).cells (n * 3)) → K (.slice (some ⟨g, 0, none⟩) n n) h') :
    RunsV Try.prog (Instr.makeSlice 69 (.int k1 (n : Int)) (.int k2 (n : Int))) h K := by
  obtain ⟨r, re, a1, a2, a3, a4, a5, a6, a7, a8, a9⟩ := slInfo_of iCells
  exact makeSlice_own a1 a2 a3 a4 (by rw [a5]; omega) (by omega) (hK _ _ (New.push _ _ _))

theorem repeat_fn {h : Heap} {c n : Nat} {A : Addr} {x : Cel} (hr : Row h A (celC x)) (hn : n ≤ 1000) :
    FnS Try.prog 61 [.slice (some A) 1 c, .int .i64 (n : Int)] h fun u h' => Ext h h' ∧ OwnC h' h.size u (List.replicate n x) := by
  refine FnS.go Try.func61 rfl rfl rfl rfl ?_
  refine ⟨rfl, fun h1 => absurd h1 (by omega), fun _ => ?_⟩
  refine ⟨1, rfl, (n : Int), wrap_u64' (by omega) (by omega), ?_⟩
  refine (mul_fn hn).mono ?_
  rintro u h1 ⟨rfl, rfl⟩
  refine ⟨rfl, fun h1 => absurd h1 (by omega), fun _ => ?_⟩
  refine ⟨rfl, fun h1 => absurd h1 (by omega), fun _ => ?_⟩
  refine ⟨(n : Int), wrap_i64 (by omega) (by omega), ?_⟩
  refine makeCells (by omega) ?_
  intro g h2 n2
  have o2 := made_own n2 (by omega)
  obtain ⟨m, hm⟩ : ∃ m, min 1 n = m := ⟨_, rfl⟩
  have hrep : ∀ j, (List.replicate n x)[j]? = if j < n then some x else none := fun j => List.getElem?_replicate
  have hvs : (if n = 0 then ([] : List Value) else celC x).length = m * 3 := by split <;> simp [celC] <;> omega
  refine copy_any (m := m) (vs := if n = 0 then [] else celC x) rfl rfl hm hvs ?_ ?_ (.inr ⟨_, rfl, ?_⟩) ?_ ?_
  · by_cases h0 : n = 0
    · exact .inl (by omega)
    · rw [if_neg h0]; exact .inr ⟨A, rfl, hr.ext n2.ext⟩
  · intro u hu
    split at hu
    · cases hu
    · exact one_cel x u hu
  · exact o2.can (by omega)
  · intro h0
    have hn0 : n = 0 := by omega
    subst hn0
    refine St.go ?_
    refine St.loop (X := Unit) (fun _ => [(7, .slice (some ⟨g, 0, none⟩) 0 0), (8, .int .i64 0)]) (fun _ h' => h' = h2) (fun _ => 0) () ⟨rfl, rfl, trivial⟩ rfl ?_
    rintro _ h3 rfl
    refine ⟨rfl, fun h4 => absurd h4 (by decide), fun _ => ?_⟩
    exact ⟨n2.ext, by simpa [OwnC] using o2⟩
  intro d h3 hd p3 hm0
  injection hd with hd
  subst hd
  rw [if_neg (by omega)] at p3
  have hm1 : m = 1 := by omega
  subst hm1
  have hn1 : 1 ≤ n := by omega
  have o3 := o2.over p3 (by rw [celC_len]; omega)
  have e3 : overL ((List.replicate n (default : Cel)).flatMap celC) 0 (celC x) = (overL (List.replicate n (default : Cel)) 0 [x]).flatMap celC := by rw [overL_flat celC_len]; simp
  rw [e3] at o3
  refine St.go ?_
  refine St.loop (X := Nat × List Cel) (fun z => [(7, .slice (some ⟨g, 0, none⟩) n n), (8, .int .i64 (z.1 : Int))])
    (fun z h' => Ext h1 h' ∧ Own h' h1.size 44 3 (.slice (some ⟨g, 0, none⟩) n n) n (z.2.flatMap celC) ∧ z.2.length = n ∧ 1 ≤ z.1 ∧ z.1 ≤ n ∧ ∀ j, j < z.1 → z.2[j]? = some x) (fun z => n - z.1) (1, overL (List.replicate n (default : Cel)) 0 [x])
    ⟨rfl, rfl, trivial⟩ ⟨p3.ext n2.ext (by rw [n2.is]; exact Nat.le_refl _), o3, by rw [overL_length (by simp; omega), List.length_replicate], Nat.le_refl _, hn1, fun j hj => ?_⟩ ?_
  · simp only at hj ⊢
    rw [overL_get (by simp; omega), if_pos (by simp; omega)]
    have : j = 0 := by omega
    subst this; rfl
  rintro ⟨k, l⟩ h4 ⟨x4, o4, hl, hk1, hkn, hj⟩
  simp only at x4 o4 hl hk1 hkn hj ⊢
  refine ⟨rfl, fun h5 => ?_, fun h5 => ?_⟩
  rotate_left
  · refine ⟨x4, ?_⟩
    have hkn' : k = n := by omega
    have : l = List.replicate n x := by
      apply List.ext_getElem?
      intro j
      rw [hrep j]
      split
      · exact hj j (by omega)
      · exact List.getElem?_eq_none (by omega)
    rw [this] at o4
    simpa [OwnC] using o4
  refine St.drawn .plain (by kernel_rfl) ?_
  refine ⟨k, n, n, rfl, rfl, rfl, (fun h => nomatch h), hkn, Nat.le_refl _, Nat.le_refl _, _, n - k, n - k, rfl, rfl, rfl, ?_⟩
  refine ⟨0, k, n, rfl, rfl, rfl, (fun h => nomatch h), Nat.zero_le _, hkn, Nat.le_refl _, _, k, n, cut0 _ _ _, rfl, rfl, ?_⟩
  obtain ⟨m, hm⟩ : ∃ m, min k (n - k) = m := ⟨_, rfl⟩
  have hA : (if n = k then some (⟨g, 0, none⟩ : Addr) else Option.map (fun z : Addr => z.add (k * 3)) (some ⟨g, 0, none⟩)) = some ⟨g, 0 + k * 3, none⟩ := by rw [if_neg (by omega)]; simp [add_plain]
  have hlm : (l.take m).length = m := by rw [List.length_take]; omega
  refine copy_any (m := m) (vs := (l.take m).flatMap celC) rfl rfl hm (by rw [flat_length celC_len, hlm]) (.inr ⟨_, rfl, ?_⟩) (one_cels _) (.inr ⟨_, hA, ?_⟩) (fun h0 => absurd h0 (by omega)) ?_
  · obtain ⟨g', c', e, _, _, hrow, _⟩ := o4.ptr (by omega)
    injection e with e
    injection e with e
    injection e with e
    subst e
    rw [← flat_take celC_len]
    exact hrow.take _
  · rw [Nat.zero_add]; exact o4.can (by omega)
  intro d h6 hd p6 _
  rw [hA] at hd
  injection hd with hd
  subst hd
  rw [Nat.zero_add] at p6
  have o6 := o4.over p6 (by rw [flat_length celC_len, hlm]; omega)
  rw [← overL_flat celC_len] at o6
  refine ⟨rfl, ((k + m : Nat) : Int), by rw [wrap_i64 (by omega) (by omega)]; omega, ?_⟩
  refine ⟨(k + m, overL l k (l.take m)), ⟨rfl, rfl, trivial⟩, ⟨p6.ext x4 (by have := n2.is; simp only; omega), o6, by simp only; rw [overL_length (by omega)]; exact hl, by simp only; omega, by simp only; omega, fun j hj' => ?_⟩, by simp only; omega⟩
  simp only at hj' ⊢
  rw [overL_get (by omega), hlm]
  split
  · rw [List.getElem?_take, if_pos (by omega)]; exact hj _ (by omega)
  · exact hj _ (by omega)
end Go.Proofs.Ytobjkcmiicflmaa
