/- More operations: a struct out of its parts; nil held against; bytes as a text and back. -/
import Derived.Test.YtobjkcmiicflmaaV6
import Derived.Laws.IdiomStrings
set_option linter.unusedVariables false
set_option linter.unusedSimpArgs false
set_option linter.unusedSectionVars false
namespace Go.V
open Go

section
variable {P : Program} [Tab P]

theorem run_places : ∀ (l : List Field), (∀ x ∈ l, (P.info? x.type).isSome = true) → ∀ w : World, (l.mapM (fun f => do pure (f.offset, ← sizeOf f.type)) : Sem (List (Nat × Nat))).run P w = .ok (l.map fun f => (f.offset, szOf P f.type)) w
  | [], _, w => by simp
  | f :: r, h, w => by
    obtain ⟨i, hi⟩ := Option.isSome_iff_exists.1 (h f (List.mem_cons_self ..))
    have hz : szOf P f.type = i.size := by simp [szOf, hi]
    rw [List.mapM_cons]
    simp only [Sem.run_bind, run_sizeOf hi, Result.andThen_ok, Sem.run_pure, run_places r (fun x hx => h x (List.mem_cons_of_mem _ hx)), List.map_cons, hz]

/-- A struct out of its parts. -/
theorem build_strct {t : Nat} {r : TRow} {fs : List (Nat × Nat × Nat)} {z : Value} (ht : tr P t = some r) (hts : r.ts = .strct fs) (hz : r.zero = some z) {parts : List (Nat × Value)} {cells : Array Value}
    (hf : Instr.fill (fun i => (fs[i]?).map fun x => (x.1, x.2.2)) z.cells parts = some cells) {F : Value → Prop} (hF : F (.agg cells)) : ∃ v, (∀ w, (Instr.build t parts.toArray).run P w = .ok v w) ∧ F v := by
  refine ⟨_, fun w => ?_, hF⟩
  obtain ⟨i, hi, hs, _, hzi⟩ := tr_ok ht
  obtain ⟨f, hu, hall, hfs⟩ := und_strct (hs.trans hts)
  have hp := run_places f.toList hall
  have hpl : (fun (i : Nat) => ((f.toList.map fun f => (f.offset, szOf P f.type)).toArray)[i]?) = fun (i : Nat) => (fs[i]?).map fun (x : Nat × Nat × Nat) => (x.1, x.2.2) := by
    funext i
    rw [← hfs]
    simp only [List.getElem?_toArray, List.getElem?_map, Option.map_map]
    rfl
  simp only [Instr.build, Sem.run_bind, zeroValue, typeInfo, run_program, Result.andThen_ok, hi, Sem.run_pure, hzi, hz, run_underlying hu, Array.mapM_eq_mapM_toList, Sem.run_map, hp]
  rw [hpl, hf]
  rfl

/-- A slice held against nil. -/
theorem eq_nil_slice {t e es : Nat} {r : TRow} (ht : tr P t = some r) (hts : r.ts = .slice e es) {xo yo : Operand} {A : Option Addr} {n c n' c' : Nat} {F : Value → Prop} (hF : F (.bool A.isNone)) :
    veqAny P .eql t xo yo (.slice A n c) (.slice none n' c') F := by
  obtain ⟨_, _, hs, _, _⟩ := tr_ok ht
  obtain ⟨hu, _⟩ := und_slice (hs.trans hts)
  refine ⟨_, fun w => ?_, hF⟩
  have h : ∀ d : Nat, (Op.equalIn (d + 1) t (.slice A n c) (.slice none n' c')).run P w = .ok A.isNone w := fun d => by
    cases A <;> simp [Op.equalIn, run_underlying hu]
  simp only [eqGuard_at_slice, Sem.run_bind, Sem.run_pure, Result.andThen_ok, binOp, Op.equal, Op.maxDepth, h 9999]
theorem ne_nil_slice {t e es : Nat} {r : TRow} (ht : tr P t = some r) (hts : r.ts = .slice e es) {xo yo : Operand} {A : Option Addr} {n c n' c' : Nat} {F : Value → Prop} (hF : F (.bool (!A.isNone))) :
    veqAny P .neq t xo yo (.slice A n c) (.slice none n' c') F := by
  obtain ⟨_, _, hs, _, _⟩ := tr_ok ht
  obtain ⟨hu, _⟩ := und_slice (hs.trans hts)
  refine ⟨_, fun w => ?_, hF⟩
  have h : ∀ d : Nat, (Op.equalIn (d + 1) t (.slice A n c) (.slice none n' c')).run P w = .ok A.isNone w := fun d => by
    cases A <;> simp [Op.equalIn, run_underlying hu]
  simp only [eqGuard_at_slice, Sem.run_bind, Sem.run_pure, Result.andThen_ok, binOp, Op.equal, Op.maxDepth, h 9999]

/-- The bytes that a slice of bytes holds. -/
def bytesV (bs : List UInt8) : List Value := bs.map fun b => .int .u8 (b.toNat : Int)
theorem bytesV_length (bs : List UInt8) : (bytesV bs).length = bs.length := by simp [bytesV]
theorem bytesV_one (bs : List UInt8) : ∀ u ∈ bytesV bs, u.oneCell' = true := fun u hu => by
  obtain ⟨b, _, rfl⟩ := List.mem_map.1 hu
  rfl
theorem bytesV_append (a b : List UInt8) : bytesV (a ++ b) = bytesV a ++ bytesV b := by simp [bytesV]
/-- The slice value v reads as these bytes. -/
def BytesAt (h : Heap) (v : Value) (bs : List UInt8) : Prop := ∃ A c, v = .slice A bs.length c ∧ bs.length ≤ c ∧ (bs = [] ∨ ∃ p, A = some p ∧ Row h p (bytesV bs))
theorem BytesAt.ext {h h' : Heap} (hx : Ext h h') {v : Value} {bs : List UInt8} (hb : BytesAt h v bs) : BytesAt h' v bs := by
  obtain ⟨A, c, rfl, hc, hr⟩ := hb
  exact ⟨A, c, rfl, hc, hr.imp id fun ⟨p, hp, hrow⟩ => ⟨p, hp, hrow.ext hx⟩⟩
theorem Own.bytes {h : Heap} {base e n : Nat} {v : Value} {bs : List UInt8} (ho : Own h base e 1 v n (bytesV bs)) : BytesAt h v bs := by
  have hn : bs.length = n := by have := ho.1; rw [bytesV_length] at this; omega
  subst hn
  obtain ⟨A, c, hv, hc⟩ := ho.slice
  refine ⟨A, c, hv, hc, ?_⟩
  by_cases h0 : bs = []
  · exact .inl h0
  · obtain ⟨g, c', hv', _, _, hrow, _⟩ := ho.ptr (List.length_pos_iff.2 h0)
    rw [hv] at hv'
    injection hv' with e1
    exact .inr ⟨_, e1, hrow⟩

/-- string(b). -/
theorem conv_bytes {src dst e es : Nat} {r re rd : TRow} (ht : tr P src = some r) (hts : r.ts = .slice e es) (he : tr P e = some re) (hte : re.ts = .int .u8) (hd : tr P dst = some rd) (htd : rd.ts = .str)
    {h : Heap} {v : Value} {bs : List UInt8} (hb : BytesAt h v bs) {F : Value → Prop} (hF : F (.string ⟨bs.toArray⟩)) : Reads P (convert src dst v) h F := by
  obtain ⟨A, c, rfl, _, hr⟩ := hb
  obtain ⟨_, _, hs, _, _⟩ := tr_ok ht
  obtain ⟨hu, _⟩ := und_slice (hs.trans hts)
  obtain ⟨_, _, hse, _, _⟩ := tr_ok he
  obtain ⟨_, _, hsd, _, _⟩ := tr_ok hd
  have hue := und_int (hse.trans hte)
  have hud := und_str (hsd.trans htd)
  refine ⟨_, fun w hw => ?_, hF⟩
  subst hw
  cases A with
  | none =>
    rcases hr with rfl | ⟨p, hp, _⟩
    · exact run_convert_bytes_nil w src e hu hue _ _ dst hud
    · cases hp
  | some p =>
    refine run_convert_bytes_back w src dst e p c bs hu hue hud fun j hj => ?_
    rcases hr with rfl | ⟨q, hq, hrow⟩
    · simp at hj
    · injection hq with hq
      subst hq
      exact hrow j _ (by simp [bytesV, hj])
end
end Go.V
namespace Go.V
open Go
/-- A block's cells, there and not frozen. -/
theorem Blk.okAt {h : Heap} {g t : Nat} {cs : Array Value} (hb : Blk h g t cs) {o n : Nat} (hn : o + n ≤ cs.size) : ∀ j, j < n → (∃ u, cellH h ((⟨g, o, none⟩ : Addr).add j) = some u) ∧ frozenH h ((⟨g, o, none⟩ : Addr).add j) = false := fun j hj => by
  rw [add_plain, hb.cell, hb.free]
  exact ⟨⟨cs[o + j]'(by omega), Array.getElem?_eq_getElem (by omega)⟩, rfl⟩
end Go.V
namespace Go.V
open Go
theorem Sat.at {P : Program} {n : Nat} {c : Code} {Q : Exit → Env → Heap → Prop} {e : Env} {h h' : Heap} (he : h = h') (hs : Sat P n c Q e h') : Sat P n c Q e h := by subst he; exact hs
end Go.V

namespace Go.V
open Go
section
variable {P : Program} [Tab P]
/-- A slice type's element: its number, its cells, its zero, its bytes. -/
def slInfo (P : Program) [Tab P] (t : Nat) : Option (Nat × Nat × Value × Nat) := match tr P t with
  | some r => match r.ts with
    | .slice e es => match tr P e with
      | some re => match re.zero with
        | some z => bif Nat.beq z.cells.size es && Nat.blt 0 es && Nat.ble es 1000 && Nat.blt 0 re.bytes then some (e, es, z, re.bytes) else none
        | none => none
      | none => none
    | _ => none
  | none => none
theorem slInfo_of {t e es : Nat} {z : Value} {by_ : Nat} (h : slInfo P t = some (e, es, z, by_)) : ∃ r re, tr P t = some r ∧ r.ts = .slice e es ∧ tr P e = some re ∧ re.zero = some z ∧ re.bytes = by_ ∧ z.cells.size = es ∧ 0 < es ∧ es ≤ 1000 ∧ 0 < by_ := by
  unfold slInfo at h
  split at h <;> try cases h
  rename_i r hr
  split at h <;> try cases h
  rename_i e' es' hts
  split at h <;> try cases h
  rename_i re hre
  split at h <;> try cases h
  rename_i z' hz
  simp only [cond_eq_ite] at h
  split at h <;> try cases h
  rename_i hc
  simp only [Bool.and_eq_true, Nat.beq_eq, Nat.blt_eq, Nat.ble_eq] at hc
  exact ⟨r, re, hr, hts, hre, hz, rfl, hc.1.1.1, hc.1.1.2, hc.1.2, hc.2⟩

theorem append_to {t ty e es : Nat} {z : Value} {by_ : Nat} (hi : slInfo P t = some (e, es, z, by_))
    {h : Heap} {base : Nat} {v : Value} {n : Nat} {xs : List Value} (ho : Own h base e es v n xs) {A : Option Addr} {m c : Nat} {news : List Value} (hl : news.length = m * es)
    (hr : m = 0 ∨ ∃ p, A = some p ∧ Row h p news) (h1 : ∀ u ∈ news, u.oneCell' = true) (hb : (n + m) * by_ ≤ 140737488355328) (hbase : base ≤ h.size) {K : Value → Heap → Prop}
    (hK : ∀ v' h', Own h' base e es v' (n + m) (xs ++ news) → Chg (fun k => v.ownBlock = some k) h h' → (v'.ownBlock = v.ownBlock ∨ v'.ownBlock = some h.size) → K v' h') :
    RunsV P (Builtin.append_ #[t, t] ty #[v, .slice A m c]) h K := by
  obtain ⟨r, re, a1, a2, a3, a4, a5, a6, a7, a8, a9⟩ := slInfo_of hi
  subst a5
  exact append_own a1 a2 a3 a4 a6 a7 ho hl hr h1 hb a9 hbase hK
theorem lit_one {t e es : Nat} {z : Value} {by_ : Nat} (hi : slInfo P t = some (e, es, z, by_)) {x : Value} (hx : x.cells.size = es) {h : Heap} {K : Value → Heap → Prop} (hK : K (.slice (some ⟨h.size, 0, none⟩) 1 1) (h.push (.cells x.cells e))) : RunsV P (Instr.buildSlice t 1 #[(0, x)]) h K := by
  obtain ⟨r, re, a1, a2, a3, a4, a5, a6, a7, a8, a9⟩ := slInfo_of hi
  exact buildSlice_one a1 a2 a3 a4 a6 a7 a8 hx hK
theorem lit_zero {t e es : Nat} {z : Value} {by_ : Nat} (hi : slInfo P t = some (e, es, z, by_)) {h : Heap} {K : Value → Heap → Prop} (hK : K (.slice (some ⟨h.size, 0, none⟩) 0 0) (h.push (.cells #[] e))) : RunsV P (Instr.buildSlice t 0 #[]) h K := by
  obtain ⟨r, re, a1, a2, a3, a4, a5, a6, a7, a8, a9⟩ := slInfo_of hi
  exact buildSlice_zero a1 a2 hK
theorem lit_some {t e es len : Nat} {z : Value} {by_ : Nat} (hi : slInfo P t = some (e, es, z, by_)) (hes : Nat.blt 0 (len * es) = true) (hsm : Nat.ble (len * es) 16777216 = true)
    {parts : List (Nat × Value)} {cells : Array Value} (hf : Instr.fill (fun i => some (i * es, es)) ((Array.range (len * es)).map (z.cells[· % z.cells.size]!)) parts = some cells)
    {h : Heap} {K : Value → Heap → Prop} (hK : K (.slice (some ⟨h.size, 0, none⟩) len len) (h.push (.cells cells e))) : RunsV P (Instr.buildSlice t len parts.toArray) h K := by
  obtain ⟨r, re, a1, a2, a3, a4, a5, a6, a7, a8, a9⟩ := slInfo_of hi
  exact buildSlice_lit a1 a2 a3 a4 (by simpa [Nat.blt_eq] using hes) (by simpa [Nat.ble_eq] using hsm) hf hK
end
/-- Cut at the end: the same block. -/
theorem cut0 (b : Option Addr) (m es : Nat) : (if m = 0 then b else b.map (·.add (0 * es))) = b := by
  cases b <;> simp [add_zero]
end Go.V
namespace Go.V
open Go
/-- A whole block written anew. -/
theorem Blk.whole {h : Heap} {g t : Nat} {cs : Array Value} (hb : Blk h g t cs) {vs : List Value} (hl : vs.length = cs.size) : Blk (Go.V.setRow h ⟨g, 0, none⟩ vs 0) g t vs.toArray := by
  obtain ⟨cs', hb', hsz, hget⟩ := Blk.setRow (p := ⟨g, 0, none⟩) (g := g) rfl rfl vs 0 (h := h) hb (by simp only; omega)
  have : cs' = vs.toArray := by
    apply Array.ext_getElem?
    intro i
    have := hget i
    simp only [Nat.zero_add, Nat.zero_le, true_and, Nat.sub_zero] at this
    rw [this]
    split
    · simp
    · rw [Array.getElem?_eq_none (by omega), List.getElem?_toArray, List.getElem?_eq_none (by omega)]
  rw [← this]; exact hb'
/-- A part of a block written anew. -/
theorem setRow_new {a h : Heap} {g : Nat} (hx : Ext a h) (hg : a.size ≤ g) (o : Nat) (vs : List Value) : Ext a (setRow h ⟨g, o, none⟩ vs 0) :=
  hx.then_new (setRow_chg ⟨g, o, none⟩ vs 0 h) fun i hi => by subst hi; exact hg
theorem setH_new {a h : Heap} {g : Nat} (hx : Ext a h) (hg : a.size ≤ g) (o : Nat) (v : Value) : Ext a (setH h ⟨g, o, none⟩ v) :=
  hx.then_new (setH_chg h ⟨g, o, none⟩ v) fun i hi => by subst hi; exact hg
end Go.V
namespace Go.V
open Go
/-- One cell of a slice of the call's own written anew. -/
theorem Own.putCell {h : Heap} {base e size n cap g i : Nat} {xs : List Value} (ho : Own h base e size (.slice (some ⟨g, 0, none⟩) n cap) n xs) (hi : i < n * size) (v : Value) :
    Own (setH h ⟨g, i, none⟩ v) base e size (.slice (some ⟨g, 0, none⟩) n cap) n (xs.set i v) := by
  refine ⟨by rw [List.length_set]; exact ho.1, ?_⟩
  rcases ho.2 with ⟨hv, _⟩ | ⟨g', cap', cur, hv, hb, hg, hnc, hm, hs, ht⟩
  · cases hv
  · injection hv with h1 h2 h3
    injection h1 with h1
    injection h1 with h1
    subst h1
    subst h3
    have hg' : Blk h g e cur := hg
    refine .inr ⟨g, cap, _, rfl, hb, hg'.set i v, hnc, hm, by simp [hs], ?_⟩
    rw [← ht, Array.toList_setIfInBounds, List.take_set]
end Go.V
namespace Go.V
open Go
theorem Chg.then_new {S T : Nat → Prop} {a b c : Heap} (h : Chg S a b) (k : Chg T b c) (hs : ∀ i, T i → a.size ≤ i) : Chg S a c :=
  ⟨Nat.le_trans h.1 k.1, fun i hi hn => (k.2 i (Nat.lt_of_lt_of_le hi h.1) fun ht => by have := hs i ht; omega).trans (h.2 i hi hn)⟩
theorem Own.tag {h : Heap} {base e size n g : Nat} {v : Value} {xs : List Value} (ho : Own h base e size v n xs) (hg : v.ownBlock = some g) : ∃ cur, Blk h g e cur := by
  rcases ho.2 with ⟨rfl, _⟩ | ⟨g', cap, cur, rfl, _, hh, _⟩
  · cases hg
  · injection hg with hg; subst hg; exact ⟨cur, hh⟩
theorem Blk.tag {h : Heap} {g t t' : Nat} {cs cs' : Array Value} (h1 : Blk h g t cs) (h2 : Blk h g t' cs') : t = t' := by
  have := h1.symm.trans h2
  injection this with this
  injection this
/-- Two slices of the call's own with elements of two types lie in two blocks. -/
theorem Own.apart {h : Heap} {base e size n base' e' size' n' : Nat} {v v' : Value} {xs xs' : List Value} (ho : Own h base e size v n xs) (ho' : Own h base' e' size' v' n' xs') (he : e ≠ e') : ∀ g, v.ownBlock = some g → ¬ v'.ownBlock = some g := fun g h1 h2 => by
  obtain ⟨_, b1⟩ := ho.tag h1
  obtain ⟨_, b2⟩ := ho'.tag h2
  exact he (b1.tag b2)
end Go.V
