/- Memory: what stands where, what is kept, what a slice of the call's own holds; append, make, literals. -/
import Derived.Test.YtobjkcmiicflmaaV4
import Derived.Maps.AppendAt
import Derived.Laws.MakeOwn
set_option linter.unusedVariables false
set_option linter.unusedSimpArgs false
set_option linter.unusedSectionVars false
namespace Go.V
open Go

theorem add_zero (p : Addr) : p.add 0 = p := by simp [Addr.add]
theorem add_add (p : Addr) (a b : Nat) : (p.add a).add b = p.add (a + b) := by
  unfold Addr.add
  by_cases ha : a = 0 <;> by_cases hb : b = 0 <;> simp [ha, hb, Nat.add_assoc]
theorem add_block (p : Addr) (n : Nat) : (p.add n).block = p.block := by unfold Addr.add; split <;> rfl
theorem add_plain (g o n : Nat) : (⟨g, o, none⟩ : Addr).add n = ⟨g, o + n, none⟩ := by
  unfold Addr.add
  split
  · subst_vars; rfl
  · rfl

/-! ### what is kept -/
/-- All blocks but those of S are as they were. -/
def Chg (S : Nat → Prop) (h h' : Heap) : Prop := h.size ≤ h'.size ∧ ∀ k, k < h.size → ¬ S k → h'[k]? = h[k]?
/-- Nothing that was there has changed. -/
def Ext (h h' : Heap) : Prop := h.size ≤ h'.size ∧ ∀ k, k < h.size → h'[k]? = h[k]?
theorem Ext.refl (h : Heap) : Ext h h := ⟨Nat.le_refl _, fun _ _ => rfl⟩
theorem Ext.trans {a b c : Heap} (h : Ext a b) (k : Ext b c) : Ext a c := ⟨Nat.le_trans h.1 k.1, fun i hi => (k.2 i (Nat.lt_of_lt_of_le hi h.1)).trans (h.2 i hi)⟩
theorem Ext.push (h : Heap) (o : Obj) : Ext h (h.push o) := ⟨by simp, fun k hk => by rw [Array.getElem?_push, if_neg (by omega)]⟩
theorem Ext.push' {a h : Heap} (hx : Ext a h) (o : Obj) : Ext a (h.push o) := hx.trans (Ext.push h o)
theorem Ext.chg {h h' : Heap} (hx : Ext h h') (S : Nat → Prop) : Chg S h h' := ⟨hx.1, fun k hk _ => hx.2 k hk⟩
theorem Chg.refl (S : Nat → Prop) (h : Heap) : Chg S h h := ⟨Nat.le_refl _, fun _ _ _ => rfl⟩
theorem Chg.trans {S : Nat → Prop} {a b c : Heap} (h : Chg S a b) (k : Chg S b c) : Chg S a c :=
  ⟨Nat.le_trans h.1 k.1, fun i hi hs => (k.2 i (Nat.lt_of_lt_of_le hi h.1) hs).trans (h.2 i hi hs)⟩
theorem Chg.mono {S S' : Nat → Prop} {a b : Heap} (h : Chg S a b) (hs : ∀ k, k < a.size → S k → S' k) : Chg S' a b := ⟨h.1, fun i hi hn => h.2 i hi fun hS => hn (hs i hi hS)⟩
theorem Chg.ext {S : Nat → Prop} {a b : Heap} (h : Chg S a b) (hs : ∀ k, k < a.size → ¬ S k) : Ext a b := ⟨h.1, fun i hi => h.2 i hi (hs i hi)⟩
/-- From a to b nothing, from b to c only what came after a. -/
theorem Ext.then_new {a b c : Heap} (h : Ext a b) {S : Nat → Prop} (k : Chg S b c) (hs : ∀ i, S i → a.size ≤ i) : Ext a c :=
  ⟨Nat.le_trans h.1 k.1, fun i hi => (k.2 i (Nat.lt_of_lt_of_le hi h.1) (fun hS => by have := hs i hS; omega)).trans (h.2 i hi)⟩

theorem cellH_lt {h : Heap} {p : Addr} {v : Value} (hc : cellH h p = some v) : p.block < h.size := by
  unfold cellH at hc
  rcases Nat.lt_or_ge p.block h.size with h' | h'
  · exact h'
  · simp [Array.getElem?_eq_none h'] at hc
theorem cellH_of_block {h h' : Heap} {p : Addr} (e : h'[p.block]? = h[p.block]?) : cellH h' p = cellH h p := by unfold cellH; rw [e]
theorem frozenH_of_block {h h' : Heap} {p : Addr} (e : h'[p.block]? = h[p.block]?) : frozenH h' p = frozenH h p := by unfold frozenH; rw [e]
theorem Ext.cell {h h' : Heap} (hx : Ext h h') {p : Addr} {v : Value} (hc : cellH h p = some v) : cellH h' p = some v := by
  rw [cellH_of_block (hx.2 _ (cellH_lt hc))]; exact hc
theorem Chg.cell {S : Nat → Prop} {h h' : Heap} (hx : Chg S h h') {p : Addr} {v : Value} (hc : cellH h p = some v) (hs : ¬ S p.block) : cellH h' p = some v := by
  rw [cellH_of_block (hx.2 _ (cellH_lt hc) hs)]; exact hc
theorem Row.ext {h h' : Heap} (hx : Ext h h') {p : Addr} {xs : List Value} (hr : Row h p xs) : Row h' p xs := fun j v hj => hx.cell (hr j v hj)
theorem Row.chg {S : Nat → Prop} {h h' : Heap} (hx : Chg S h h') {p : Addr} {xs : List Value} (hr : Row h p xs) (hs : ¬ S p.block) : Row h' p xs := fun j v hj => hx.cell (hr j v hj) (by rw [add_block]; exact hs)
theorem Row.nil (h : Heap) (p : Addr) : Row h p [] := fun j v hj => by cases hj
theorem Row.drop {h : Heap} {p : Addr} {xs : List Value} (hr : Row h p xs) (k : Nat) : Row h (p.add k) (xs.drop k) := fun j v hj => by
  rw [add_add]
  exact hr _ v (by rw [← hj, List.getElem?_drop])
theorem Row.take {h : Heap} {p : Addr} {xs : List Value} (hr : Row h p xs) (k : Nat) : Row h p (xs.take k) := fun j v hj => by
  rw [List.getElem?_take] at hj
  split at hj
  · exact hr j v hj
  · cases hj
theorem Row.append {h : Heap} {p : Addr} {xs ys : List Value} (hx : Row h p xs) (hy : Row h (p.add xs.length) ys) : Row h p (xs ++ ys) := fun j v hj => by
  rw [List.getElem?_append] at hj
  split at hj
  · exact hx j v hj
  · have := hy _ v hj
    rw [add_add] at this
    rwa [show xs.length + (j - xs.length) = j by omega] at this
theorem Row.one {h : Heap} {p : Addr} {v : Value} (hc : cellH h p = some v) : Row h p [v] := fun j u hj => by
  cases j with
  | zero => injection hj with hj; subst hj; rw [add_zero]; exact hc
  | succ j => cases hj

/-! ### a block known whole -/
def Blk (h : Heap) (g t : Nat) (cs : Array Value) : Prop := h[g]? = some (.cells cs t (0, 0))
theorem Blk.lt {h : Heap} {g t : Nat} {cs : Array Value} (hb : Blk h g t cs) : g < h.size := (Array.getElem?_eq_some_iff.1 hb).1
theorem Blk.cell {h : Heap} {g t : Nat} {cs : Array Value} (hb : Blk h g t cs) (i : Nat) : cellH h ⟨g, i, none⟩ = cs[i]? := by
  unfold Blk at hb
  simp [cellH, hb]
theorem Blk.free {h : Heap} {g t : Nat} {cs : Array Value} (hb : Blk h g t cs) (i : Nat) : frozenH h ⟨g, i, none⟩ = false := by
  unfold Blk at hb
  simp [frozenH, hb]
theorem Blk.new (h : Heap) (t : Nat) (cs : Array Value) : Blk (h.push (.cells cs t)) h.size t cs := by simp [Blk]
theorem Blk.ext {h h' : Heap} (hx : Ext h h') {g t : Nat} {cs : Array Value} (hb : Blk h g t cs) : Blk h' g t cs := (hx.2 g hb.lt).trans hb
theorem Blk.chg {S : Nat → Prop} {h h' : Heap} (hx : Chg S h h') {g t : Nat} {cs : Array Value} (hb : Blk h g t cs) (hs : ¬ S g) : Blk h' g t cs := (hx.2 g hb.lt hs).trans hb
theorem Blk.row {h : Heap} {g t : Nat} {cs : Array Value} (hb : Blk h g t cs) : Row h ⟨g, 0, none⟩ cs.toList := fun j v hj => by
  rw [add_plain, Nat.zero_add, hb.cell]; simpa using hj
theorem Blk.set {h : Heap} {g t : Nat} {cs : Array Value} (hb : Blk h g t cs) (i : Nat) (v : Value) : Blk (setH h ⟨g, i, none⟩ v) g t (cs.setIfInBounds i v) := by
  unfold Blk at *
  simp [setH, Array.getElem?_modify, hb]
theorem setH_size (h : Heap) (p : Addr) (v : Value) : (setH h p v).size = h.size := by simp [setH]
theorem setH_chg (h : Heap) (p : Addr) (v : Value) : Chg (fun k => k = p.block) h (setH h p v) :=
  ⟨by rw [setH_size]; exact Nat.le_refl _, fun k _ hs => by simp only [setH, Array.getElem?_modify]; rw [if_neg (fun e => hs e.symm)]⟩
theorem Blk.far {h : Heap} {g t : Nat} {cs : Array Value} (hb : Blk h g t cs) {p : Addr} (hp : g ≠ p.block) (v : Value) : Blk (setH h p v) g t cs := hb.chg (setH_chg h p v) hp
theorem Blk.setRow {h : Heap} {g t : Nat} {p : Addr} (hp : p.block = g) (hs : p.spot = none) : ∀ (vs : List Value) (i : Nat) {h : Heap} {cs : Array Value}, Blk h g t cs → p.off + i + vs.length ≤ cs.size →
    ∃ cs', Blk (setRow h p vs i) g t cs' ∧ cs'.size = cs.size ∧ ∀ j, cs'[j]? = if p.off + i ≤ j ∧ j < p.off + i + vs.length then vs[j - (p.off + i)]? else cs[j]?
  | [], i, h, cs, hb, _ => ⟨cs, hb, rfl, fun j => by rw [if_neg (by simp only [List.length_nil]; omega)]⟩
  | v :: r, i, h, cs, hb, hsz => by
    have e : p.add i = ⟨g, p.off + i, none⟩ := by
      subst hp
      unfold Addr.add
      split
      · rename_i h0; subst h0; cases p; simp_all
      · rfl
    have hb' : Blk (setH h (p.add i) v) g t (cs.setIfInBounds (p.off + i) v) := by rw [e]; exact hb.set _ v
    simp only [List.length_cons] at hsz
    obtain ⟨cs', h1, h2, h3⟩ := Blk.setRow (h := h) hp hs r (i + 1) hb' (by simp; omega)
    refine ⟨cs', h1, by rw [h2]; simp, fun j => ?_⟩
    rw [h3 j]
    simp only [List.length_cons]
    by_cases hj : p.off + i ≤ j ∧ j < p.off + i + (r.length + 1)
    · rw [if_pos hj]
      by_cases hj0 : j = p.off + i
      · subst hj0
        rw [if_neg (by omega), Array.getElem?_setIfInBounds_self_of_lt (by omega)]
        simp
      · rw [if_pos (by omega), show j - (p.off + i) = (j - (p.off + (i + 1))) + 1 by omega]
        simp
    · rw [if_neg hj, if_neg (by omega)]
      rw [Array.getElem?_setIfInBounds_ne (by omega)]
theorem setRow_chg (p : Addr) : ∀ (vs : List Value) (i : Nat) (h : Heap), Chg (fun k => k = p.block) h (setRow h p vs i)
  | [], i, h => Chg.refl _ h
  | v :: r, i, h => by
    have h1 := setH_chg h (p.add i) v
    rw [add_block] at h1
    exact h1.trans (setRow_chg p r (i + 1) _)
theorem setRow_size (p : Addr) : ∀ (vs : List Value) (i : Nat) (h : Heap), (setRow h p vs i).size = h.size
  | [], i, h => rfl
  | v :: r, i, h => by simp only [setRow]; rw [setRow_size p r]; exact setH_size ..

/-! ### a slice of the call's own -/
/-- The slice value v of n elements (size cells each, of type e) is nil, or stands at the head of a block of its own from base on; its cells are xs. -/
def Own (h : Heap) (base e size : Nat) (v : Value) (n : Nat) (xs : List Value) : Prop :=
  xs.length = n * size ∧
  ((v = .slice none 0 0 ∧ n = 0) ∨
   ∃ g cap cur, v = .slice (some ⟨g, 0, none⟩) n cap ∧ base ≤ g ∧ h[g]? = some (.cells cur e (0, 0)) ∧ n ≤ cap ∧ cap ≤ maxLen ∧ cur.size = cap * size ∧ cur.toList.take (n * size) = xs)
theorem own_eq (w : World) (base e size : Nat) (v : Value) (n : Nat) (xs : List Value) : w.ownsRow base e size v n xs ↔ Own w.heap base e size v n xs := Iff.rfl

section
variable {h h' : Heap} {base e size n : Nat} {v : Value} {xs : List Value}
theorem Own.nil (h : Heap) (base e size : Nat) : Own h base e size (.slice none 0 0) 0 [] := ⟨by simp, .inl ⟨rfl, rfl⟩⟩
theorem Own.slice (ho : Own h base e size v n xs) : ∃ b c, v = .slice b n c ∧ n ≤ c := by
  rcases ho.2 with ⟨rfl, rfl⟩ | ⟨g, cap, cur, rfl, _, _, hc, _⟩
  · exact ⟨none, 0, rfl, Nat.le_refl _⟩
  · exact ⟨_, cap, rfl, hc⟩
theorem Own.ptr (ho : Own h base e size v n xs) (hn : 0 < n) : ∃ g c, v = .slice (some ⟨g, 0, none⟩) n c ∧ base ≤ g ∧ g < h.size ∧ Row h ⟨g, 0, none⟩ xs ∧ n ≤ c := by
  rcases ho.2 with ⟨_, rfl⟩ | ⟨g, cap, cur, rfl, hb, hg, hnc, _, _, ht⟩
  · omega
  · refine ⟨g, cap, rfl, hb, (Array.getElem?_eq_some_iff.1 hg).1, ?_, hnc⟩
    rw [← ht]
    exact Row.take (Blk.row hg) _
theorem Own.blk (ho : Own h base e size v n xs) (hn : 0 < n) : ∃ g c cur, v = .slice (some ⟨g, 0, none⟩) n c ∧ base ≤ g ∧ Blk h g e cur ∧ n ≤ c ∧ c ≤ maxLen ∧ cur.size = c * size ∧ cur.toList.take (n * size) = xs := by
  rcases ho.2 with ⟨_, rfl⟩ | ⟨g, cap, cur, rfl, hb, hg, hnc, hm, hs, ht⟩
  · omega
  · exact ⟨g, cap, cur, rfl, hb, hg, hnc, hm, hs, ht⟩
theorem Own.chg {S : Nat → Prop} (ho : Own h base e size v n xs) (hx : Chg S h h') (hs : ∀ g, v.ownBlock = some g → ¬ S g) : Own h' base e size v n xs := by
  refine ⟨ho.1, ?_⟩
  rcases ho.2 with hl | ⟨g, cap, cur, rfl, hb, hg, hr⟩
  · exact .inl hl
  · exact .inr ⟨g, cap, cur, rfl, hb, (hx.2 g (Array.getElem?_eq_some_iff.1 hg).1 (hs g rfl)).trans hg, hr⟩
theorem Own.ext (ho : Own h base e size v n xs) (hx : Ext h h') : Own h' base e size v n xs := ho.chg (hx.chg fun _ => False) fun _ _ => id
theorem Own.base_le (ho : Own h base e size v n xs) : ∀ g, v.ownBlock = some g → base ≤ g ∧ g < h.size := fun g hg => by
  rcases ho.2 with ⟨rfl, _⟩ | ⟨g', cap, cur, rfl, hb, hh, hr⟩
  · cases hg
  · injection hg with hg; subst hg; exact ⟨hb, (Array.getElem?_eq_some_iff.1 hh).1⟩
theorem Own.le_max (ho : Own h base e size v n xs) : n ≤ maxLen := by
  rcases ho.2 with ⟨_, rfl⟩ | ⟨g, cap, cur, _, _, _, h1, h2, _⟩
  · exact Nat.zero_le _
  · omega
theorem Own.mono {b : Nat} (ho : Own h base e size v n xs) (hb : b ≤ base) : Own h b e size v n xs := by
  refine ⟨ho.1, ?_⟩
  rcases ho.2 with hl | ⟨g, cap, cur, hv, hbg, hr⟩
  · exact .inl hl
  · exact .inr ⟨g, cap, cur, hv, by omega, hr⟩
end

theorem grown_chg {w w' : World} {row : Option Nat} (h : w.grownBy w' row) : Keep w w' ∧ Chg (fun k => some k = row) w.heap w'.heap := ⟨⟨h.tape, h.os, h.output⟩, h.size, h.block⟩

section
variable {P : Program} [Tab P]

/-- append to a slice of the call's own; what is appended is read from p, or is nothing. -/
theorem append_own {t ty e es : Nat} {r re : TRow} {z : Value} (ht : tr P t = some r) (hts : r.ts = .slice e es) (he : tr P e = some re) (hz : re.zero = some z) (hzs : z.cells.size = es) (hes : 0 < es)
    {h : Heap} {base : Nat} {v : Value} {n : Nat} {xs : List Value} (ho : Own h base e es v n xs) {A : Option Addr} {m c : Nat} {news : List Value} (hl : news.length = m * es)
    (hr : m = 0 ∨ ∃ p, A = some p ∧ Row h p news) (h1 : ∀ u ∈ news, u.oneCell' = true) (hb : (n + m) * re.bytes ≤ 140737488355328) (hb0 : 0 < re.bytes) (hbase : base ≤ h.size) {K : Value → Heap → Prop}
    (hK : ∀ v' h', Own h' base e es v' (n + m) (xs ++ news) → Chg (fun k => v.ownBlock = some k) h h' → (v'.ownBlock = v.ownBlock ∨ v'.ownBlock = some h.size) → K v' h') :
    RunsV P (Builtin.append_ #[t, t] ty #[v, .slice A m c]) h K := by
  refine ⟨fun w hw => ?_⟩
  subst hw
  obtain ⟨i, hi, hsi, hsz, hzi, hby⟩ := tr_bytes he
  obtain ⟨_, _, htt, _, _⟩ := tr_ok ht
  obtain ⟨hu, i', hi', hs'⟩ := und_slice (htt.trans hts)
  rw [hi] at hi'
  injection hi' with hi'
  subst hi'
  have hnm : n + m ≤ 140737488355328 := Nat.le_trans (Nat.le_mul_of_pos_right _ hb0) hb
  have hchg : ∀ {w' : World} {row : Option Nat}, w.grownBy w' row → row = v.ownBlock → Chg (fun k => v.ownBlock = some k) w.heap w'.heap := fun hg he => by
    subst he
    exact (grown_chg hg).2.mono fun k _ hk => hk.symm
  rcases hr with rfl | ⟨p, rfl, hrow⟩
  · have hn : news = [] := List.eq_nil_of_length_eq_zero (by simpa using hl)
    subst hn
    refine ⟨v, w, ?_, Keep.refl w, hK v w.heap (by simpa using ho) (Chg.refl _ _) (.inl rfl)⟩
    rcases ho.2 with ⟨rfl, rfl⟩ | ⟨g, cap, cur, rfl, _, _, hnc, _⟩
    · cases A <;> simp [Builtin.append_, run_underlying hu, sizeOf, typeInfo, hi, Builtin.lenOf, Builtin.firstCells, loadCells, loadCellsFrom]
    · cases A <;> simp [Builtin.append_, run_underlying hu, sizeOf, typeInfo, hi, Builtin.lenOf, Builtin.firstCells, hnc, storeCells, loadCells, loadCellsFrom]
  · obtain ⟨v', w', hrun, hown, hg, _, hat⟩ := run_append_own_at (P := P) w base t ty e i z es re.bytes hu hi (hzi.trans hz) hs' hby hzs hes v n xs ho p m c news hl (fun j u hj => hrow j u hj) h1 (by simp only [maxLen]; omega) hb hbase
    exact ⟨v', w', hrun, (grown_chg hg).1, hK v' w'.heap hown (hchg hg rfl) hat⟩

theorem fill_one {es : Nat} {x : Value} {zs : Array Value} (hx : x.cells.size = es) (hzs : zs.size = es) :
    Instr.fill (fun i => some (i * es, es)) zs [(0, x)] = some x.cells := by
  subst hx
  simp only [Instr.fill]
  rw [if_neg (by simp [hzs])]
  simp only [Nat.zero_mul, Nat.zero_add]
  congr 1
  apply Array.ext'
  rw [← Array.foldl_toList]
  simp only [Array.toList_zipIdx]
  have key : ∀ (l : List Value) (k : Nat) (a : Array Value), k + l.length = a.size → (List.foldl (fun (cs : Array Value) (x : Value × Nat) => cs.setIfInBounds x.2 x.1) a (l.zipIdx k)).toList = a.toList.take k ++ l := by
    intro l
    induction l with
    | nil => intro k a hk; simp at hk; subst hk; simp [List.take_of_length_le (Nat.le_of_eq (Array.length_toList))]
    | cons v r ih =>
      intro k a hk
      simp only [List.length_cons] at hk
      simp only [List.zipIdx_cons, List.foldl_cons]
      rw [ih (k + 1) _ (by simp; omega)]
      rw [Array.toList_setIfInBounds, List.take_succ_eq_append_getElem (by simp; omega), List.take_set_of_le (Nat.le_refl _)]
      simp
  simpa using key x.cells.toList 0 zs (by simp [hzs])

/-- A literal of one element (what append's variadic makes). -/
theorem buildSlice_one {t e es : Nat} {r re : TRow} {z : Value} (ht : tr P t = some r) (hts : r.ts = .slice e es) (he : tr P e = some re) (hz : re.zero = some z) (hzs : z.cells.size = es) (hes : 0 < es) (hsm : es ≤ 1000)
    {x : Value} (hx : x.cells.size = es) {h : Heap} {K : Value → Heap → Prop} (hK : K (.slice (some ⟨h.size, 0, none⟩) 1 1) (h.push (.cells x.cells e))) : RunsV P (Instr.buildSlice t 1 #[(0, x)]) h K := by
  refine ⟨fun w hw => ?_⟩
  subst hw
  obtain ⟨i, hi, hsi, hsz, hzi⟩ := tr_ok he
  obtain ⟨_, _, htt, _, _⟩ := tr_ok ht
  obtain ⟨hu, i', hi', hs'⟩ := und_slice (htt.trans hts)
  rw [hi] at hi'
  injection hi' with hi'
  subst hi'
  refine ⟨_, w.alloc (.cells x.cells e), ?_, ⟨rfl, rfl, rfl⟩, hK⟩
  have hf := fill_one (zs := (Array.range (1 * es)).map (z.cells[· % z.cells.size]!)) hx (by simp)
  simp only [Instr.buildSlice, Sem.run_bind, run_underlying hu, Result.andThen_ok, run_sizeOf hi, hs']
  rw [if_neg (by omega), if_neg (by omega)]
  simp only [Sem.run_pure, Sem.run_bind, zeroValue, typeInfo, run_program, Result.andThen_ok, hi, hzi, hz, hf, newRow, run_newObj]
  rfl

theorem buildSlice_lit {t e es len : Nat} {r re : TRow} {z : Value} (ht : tr P t = some r) (hts : r.ts = .slice e es) (he : tr P e = some re) (hz : re.zero = some z) (hes : 0 < len * es) (hsm : len * es ≤ 16777216)
    {parts : List (Nat × Value)} {cells : Array Value} (hf : Instr.fill (fun i => some (i * es, es)) ((Array.range (len * es)).map (z.cells[· % z.cells.size]!)) parts = some cells)
    {h : Heap} {K : Value → Heap → Prop} (hK : K (.slice (some ⟨h.size, 0, none⟩) len len) (h.push (.cells cells e))) : RunsV P (Instr.buildSlice t len parts.toArray) h K := by
  refine ⟨fun w hw => ?_⟩
  subst hw
  obtain ⟨i, hi, hsi, hsz, hzi⟩ := tr_ok he
  obtain ⟨_, _, htt, _, _⟩ := tr_ok ht
  obtain ⟨hu, i', hi', hs'⟩ := und_slice (htt.trans hts)
  rw [hi] at hi'
  injection hi' with hi'
  subst hi'
  refine ⟨_, w.alloc (.cells cells e), ?_, ⟨rfl, rfl, rfl⟩, hK⟩
  simp only [Instr.buildSlice, Sem.run_bind, run_underlying hu, Result.andThen_ok, run_sizeOf hi, hs']
  rw [if_neg (by omega), if_neg (by omega)]
  simp only [Sem.run_pure, Sem.run_bind, zeroValue, typeInfo, run_program, Result.andThen_ok, hi, hzi, hz, hf, newRow, run_newObj]
  rfl

/-- The empty literal: '[]T{}'. -/
theorem buildSlice_zero {t e es : Nat} {r : TRow} (ht : tr P t = some r) (hts : r.ts = .slice e es) {h : Heap} {K : Value → Heap → Prop} (hK : K (.slice (some ⟨h.size, 0, none⟩) 0 0) (h.push (.cells #[] e))) : RunsV P (Instr.buildSlice t 0 #[]) h K := by
  refine ⟨fun w hw => ?_⟩
  subst hw
  obtain ⟨_, _, htt, _, _⟩ := tr_ok ht
  obtain ⟨hu, i', hi', hs'⟩ := und_slice (htt.trans hts)
  refine ⟨_, w.alloc (.cells #[] e), ?_, ⟨rfl, rfl, rfl⟩, hK⟩
  simp only [Instr.buildSlice, Sem.run_bind, run_underlying hu, Result.andThen_ok, run_sizeOf hi', hs', Nat.zero_mul]
  simp [Instr.fill, newRow, Array.range_zero']

/-- make([]T, n): n elements, all zero. -/
theorem makeSlice_own {t e es : Nat} {r re : TRow} {z : Value} (ht : tr P t = some r) (hts : r.ts = .slice e es) (he : tr P e = some re) (hz : re.zero = some z)
    {k1 k2 : IntKind} {n : Nat} (hb : re.bytes * n ≤ 281474976710656) (hn : n ≤ 9223372036854775807) {h : Heap} {K : Value → Heap → Prop}
    (hK : K (.slice (some ⟨h.size, 0, none⟩) n n) (h.push (.cells (madeCells z.cells (n * es)) e))) : RunsV P (Instr.makeSlice t (.int k1 (n : Int)) (.int k2 (n : Int))) h K := by
  refine ⟨fun w hw => ?_⟩
  subst hw
  obtain ⟨i, hi, hsi, hsz, hzi, hby⟩ := tr_bytes he
  obtain ⟨_, _, htt, _, _⟩ := tr_ok ht
  obtain ⟨hu, i', hi', hs'⟩ := und_slice (htt.trans hts)
  rw [hi] at hi'
  injection hi' with hi'
  subst hi'
  have hb' : (i.bytes : Int) * (n : Int) ≤ 281474976710656 := by
    have h' : ((i.bytes * n : Nat) : Int) ≤ 281474976710656 := by rw [hby]; omega
    rwa [Int.natCast_mul] at h'
  have hr := run_make (P := P) w t e i z hu hi (hzi.trans hz) k1 k2 n n (by omega) (Int.le_refl _) hb' (by omega)
  simp only [Int.toNat_natCast, hs'] at hr
  exact ⟨_, _, hr, ⟨rfl, rfl, rfl⟩, hK⟩
end

theorem wrap_i64 {n : Int} (h1 : -9223372036854775808 ≤ n) (h2 : n ≤ 9223372036854775807) : IntKind.i64.wrap n = n := by rw [IntKind.wrap_i64]; omega
end Go.V
