/- From a function's contract to what a row asks: true, and every argument reads as it did. -/
import Derived.Test.YtobjkcmiicflmaaV7
import Derived.OpenShut
import Derived.JoinedTies
import Derived.JoinedOf
import Derived.Below
import Derived.Carry
import Derived.Deep.Slices
set_option linter.unusedVariables false
set_option linter.unusedSectionVars false
set_option linter.unusedSimpArgs false
namespace Go.V
open Go Go.RowKit Go.WideShapes Go.ChangeShapes Go.WideElems Go.Deep

section
variable {H : Type} {enc : TypeId × Value → H} {P : Program}

theorem below_of {w w' : World} (hk : Keep w w') (hx : Ext w.heap w'.heap) : Below w.heap.size w w' := ⟨hk.2.1, hk.1, hk.2.2, hx.1, hx.2⟩

theorem trodAll_after (hl : laidOutB P = true) {W W' : World} (hb : Below W.heap.size W W') (sp : Nat → Bool) : ∀ {ts : List TypeId} {vs : List Value} {ds : List (DataW H)} {ps : List MemPlace},
    (ts.all fun t => P.readableRec t && decide (t < P.types.size)) = true → DataW.TrodAll enc P W 0 (fun _ => true) true ts vs ds ps → (∀ x ∈ ps, x.block < W.heap.size) → (∀ p ∈ ps, sp p.block = true) → DataW.TrodAll enc P W' 0 sp true ts vs ds ps
  | [], [], [], _, _, h, _, _ => h
  | t :: ts, v :: vs, d :: ds, ps, ht, h, hlt, hs => by
    obtain ⟨p, q, h1, h2, rfl⟩ := h
    simp only [List.all_cons, Bool.and_eq_true, decide_eq_true_eq] at ht
    exact ⟨p, q, Trod_stays hl ht.1.1 ht.1.2 h1 (fun x hx => hb.same (hlt x (by simp [hx]))) (fun x hx => hs x (by simp [hx])),
      trodAll_after hl hb sp ht.2 h2 (fun x hx => hlt x (by simp [hx])) (fun x hx => hs x (by simp [hx])), rfl⟩
  | [], _ :: _, _, _, _, h, _, _ => h.elim
  | [], [], _ :: _, _, _, h, _, _ => h.elim
  | _ :: _, [], _, _, _, h, _, _ => h.elim
  | _ :: _, _ :: _, [], _, _, h, _, _ => h.elim

theorem trodAll_length {w : World} {b : Nat} {sp : Nat → Bool} {hd : Bool} : ∀ {ts : List TypeId} {vs : List Value} {ds : List (DataW H)} {ps : List MemPlace}, DataW.TrodAll enc P w b sp hd ts vs ds ps → ds.length = ts.length
  | [], [], [], _, _ => rfl
  | t :: ts, v :: vs, d :: ds, ps, h => by obtain ⟨p, q, _, h2, _⟩ := h; simp [trodAll_length h2]
  | [], _ :: _, _, _, h => h.elim
  | [], [], _ :: _, _, h => h.elim
  | _ :: _, [], _, _, h => h.elim
  | _ :: _, _ :: _, [], _, h => h.elim

theorem post_true (hl : laidOutB P = true) {f : Func} {s : ChangeSpec} {apart fresh handsOn again : Bool} {W W' : World} {args : Array Value} {ds gs : List (DataW H)} {before : List MemPlace} {tb : TypeId}
    (hts : (f.params.toList.all fun t => P.readableRec t && decide (t < P.types.size)) = true) (hv : s.vars = []) (hfn : ∀ ds : List (DataW H), ds.length = f.params.toList.length → s.fn H (ds ++ []) = ⟨[.lit (.bool true)], ds, []⟩)
    (hres : f.resultTypes = #[tb]) (ht : P.underlying tb = some .bool)
    (hW : DataW.Whole enc P f.params.toList s.vars apart W args.toList ds gs before) (hb : Below W.heap.size W W') : s.post enc P f apart fresh handsOn again W args (.bool true) W' := by
  have hlt : ∀ p ∈ before, p.block < W.heap.size := fun p hp => hW.lt p hp
  have hW' := hW
  obtain ⟨p, q, hA, hV, rfl, hz, hn⟩ := hW
  rw [hv] at hV
  obtain ⟨rfl, rfl⟩ := trodVars_none hV
  have hds := hfn ds (trodAll_length hA)
  have hargs : ∀ sp : Nat → Bool, (∀ x ∈ p ++ [], sp x.block = true) → DataW.TrodAll enc P W' 0 sp true f.params.toList args.toList ds p := fun sp hs =>
    trodAll_after hl hb sp hts hA (fun x hx => hlt x (by simp [hx])) (fun x hx => hs x (by simp [hx]))
  have hvars : ∀ sp : Nat → Bool, DataW.TrodVars enc P W' sp s.vars [] [] := fun sp => by rw [hv]; rfl
  have hok := ok_one (P := P) (W' := W') (f := f) (v := .bool true) hres rfl (okWide_bool_mk ht true)
  have hrs : ∀ (b : Nat) (sp : Nat → Bool) (hd : Bool), DataW.TrodAll enc P W' b sp hd f.resultTypes.toList ((Value.bool true).resultList f.resultTypes.size) [.lit (.bool true)] [] := fun b sp hd => by
    rw [hres]
    exact trodAll_cons_mk (shut_bool ht true) trodAll_mk0
  have hold : ∀ x ∈ p ++ [], (fun b => decide (b < W.heap.size)) x.block = true := fun x hx => by simpa using hlt x hx
  refine ⟨ds, [], p ++ [], [], p, [], hW', ?_, ?_, ?_, World.keptBut_mono (fun x hx => ⟨hx, Or.inr (by simpa using hx)⟩) (hb.frame (· ∈ p ++ [])), fun _ => ?_⟩
  · rw [hds]; exact hrs _ _ _
  · rw [hds]; exact hargs _ hold
  · rw [hds]; exact hvars _
  · refine ⟨hok, _, _, ([] ++ p) ++ [], ⟨[] ++ p, [], trodAll_append (hargs _ (fun _ _ => rfl)) (hrs _ _ _), hvars _, rfl, ?_, ?_⟩, ?_⟩
    · intro b off hp
      have hin : MemPlace.cell b off ∈ p ++ [] := by simpa using hp
      rw [hb.frozen (hlt _ hin)]
      exact hz b off hin
    · intro ha
      have := hn ha
      simpa using this
    · intro x hx _
      simpa using hx

variable {w : World} {sp : Nat → Bool} {held : Bool}
theorem open_field {t : TypeId} {fs : Array Field} {n c : Nat} {cs : List Value} {x : DataW H × List MemPlace} (ht : P.underlying t = some (.struct fs)) (hc : P.cellsOf t = c) (h : DataW.trod enc P w 0 sp held n t cs = some x) :
    cs.length = c ∧ ∀ (i ty off k : Nat), (fs[i]?).map (fun f => (f.type, f.offset)) = some (ty, off) → P.cellsOf ty = k → ∃ m y, DataW.trod enc P w 0 sp held m ty ((cs.drop off).take k) = some y := by
  obtain ⟨xs, m, _, _, hl, hx, hf⟩ := DataW.trod_struct ht h
  refine ⟨hl.trans hc, fun i ty off k hi hk => ?_⟩
  rw [Option.map_eq_some_iff] at hi
  obtain ⟨f, hi, e⟩ := hi
  injection e with e1 e2
  subst e1; subst e2; subst hk
  have hlt : i < xs.length := by rw [hx]; exact (Array.getElem?_eq_some_iff.1 hi).1
  exact ⟨m, _, (hf i f hi).trans (List.getElem?_eq_getElem hlt)⟩

theorem open_bytesAt {t e : TypeId} {n : Nat} {v : Value} {x : DataW H × List MemPlace} (ht : P.underlying t = some (.slice e)) (he : P.underlying e = some (.int .u8)) (hc : P.cellsOf e = 1) (h : DataW.trod enc P w 0 sp held n t [v] = some x) :
    ∃ bs, BytesAt w.heap v bs ∧ bs.length ≤ maxLen := by
  rcases open_ints ht he hc h with ⟨e1, _⟩ | ⟨a, len, cap, zs, e1, _, hlc, hcm, hzl, _, hcell, hwf⟩
  · injection e1 with e1
    subst e1
    exact ⟨[], ⟨none, 0, rfl, Nat.le_refl _, .inl rfl⟩, by decide⟩
  · injection e1 with e1
    subst e1
    have hz : len ≤ zs.length := by rw [hzl]; split <;> omega
    have hl : ((zs.take len).map fun z => UInt8.ofNat z.toNat).length = len := by rw [List.length_map, List.length_take]; omega
    refine ⟨(zs.take len).map fun z => UInt8.ofNat z.toNat, ⟨some a, cap, by rw [hl], by rw [hl]; exact hlc, .inr ⟨a, rfl, fun j u hj => ?_⟩⟩, by rw [hl]; exact Nat.le_trans hlc hcm⟩
    simp only [bytesV, List.getElem?_map, Option.map_map, Option.map_eq_some_iff] at hj
    obtain ⟨z, hz', rfl⟩ := hj
    have hjl : j < len := by
      have := (List.getElem?_eq_some_iff.1 hz').1
      rw [List.length_take] at this
      omega
    rw [List.getElem?_take, if_pos hjl] at hz'
    have hd : zs.getD j 0 = z := by simp [List.getD_eq_getElem?_getD, hz']
    have := hcell j (by omega)
    rw [hd] at this
    have hw := hwf z (List.mem_of_getElem? hz')
    have hw' : 0 ≤ z ∧ z ≤ 255 := by simpa [Lit.wf, IntKind.min, IntKind.max, IntKind.signed, IntKind.bits] using hw
    refine Eq.trans this ?_
    congr 2
    simp only [Function.comp]
    have : (UInt8.ofNat z.toNat).toNat = z.toNat := by
      rw [UInt8.toNat_ofNat']
      exact Nat.mod_eq_of_lt (by omega)
    rw [this]
    omega
/-- A slice argument, element by element. -/
theorem open_elems {t e : TypeId} {n c : Nat} {v : Value} {x : DataW H × List MemPlace} (ht : P.underlying t = some (.slice e)) (hc : P.cellsOf e = c) (h : DataW.trod enc P w 0 sp held n t [v] = some x) :
    ∃ A len cap, v = .slice A len cap ∧ len ≤ cap ∧ cap ≤ maxLen ∧ (len = 0 ∨ ∃ p, A = some p ∧ ∀ i, i < len → ∃ cs m y, cs.length = c ∧ Row w.heap (p.add (i * c)) cs ∧ DataW.trod enc P w 0 sp held m e cs = some y) := by
  rcases open_slice ht h with ⟨e1, _⟩ | ⟨a, len, cap, m, k, D, Pl, e1, _, hlc, hcm, hm, _, hi⟩
  · injection e1 with e1
    subst e1
    exact ⟨none, 0, 0, rfl, Nat.le_refl _, Nat.zero_le _, .inl rfl⟩
  · injection e1 with e1
    subst e1
    refine ⟨some a, len, cap, rfl, hlc, hcm, .inr ⟨a, rfl, fun i hil => ?_⟩⟩
    obtain ⟨cs, h1, h2⟩ := hi i (by rw [hm]; split <;> omega)
    obtain ⟨_, hl, hcell⟩ := World.cells?_some h1
    rw [hc] at h1 hl hcell
    exact ⟨cs, k, _, hl, fun j u hj => (hcell j (by rw [← hl]; exact (List.getElem?_eq_some_iff.1 hj).1)).trans hj, h2⟩
end
end Go.V
