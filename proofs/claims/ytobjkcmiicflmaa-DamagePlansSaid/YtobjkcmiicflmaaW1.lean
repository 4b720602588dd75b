/- Walking made short: what must hold ahead of a statement, reckoned through all its parts but loops, open regions and places where ways meet; new blocks and written ones go by a name. -/
import Derived.Test.YtobjkcmiicflmaaV9
import Derived.Test.YtobjkcmiicflmaaV7
set_option linter.unusedVariables false
set_option linter.unusedSimpArgs false
set_option linter.unusedSectionVars false
namespace Go.V
open Go

/-- From h to h' there is one block more: g, of type t, with these cells. -/
structure New (h : Heap) (g : Nat) (h' : Heap) (t : Nat) (cs : Array Value) : Prop where
  is : g = h.size
  ext : Ext h h'
  blk : Blk h' g t cs
  size : h'.size = h.size + 1
theorem New.push (h : Heap) (t : Nat) (cs : Array Value) : New h h.size (h.push (.cells cs t)) t cs := ⟨rfl, Ext.push h _, Blk.new h t cs, by simp⟩
def Can (h : Heap) (p : Addr) (n : Nat) : Prop := ∀ j, j < n → (∃ u, cellH h (p.add j) = some u) ∧ frozenH h (p.add j) = false
/-- From h to h' these values have been written from p on. -/
structure Put (h : Heap) (p : Addr) (vs : List Value) (h' : Heap) : Prop where
  is : h' = setRow h p vs 0

section
variable {h h' h'' : Heap} {g t : Nat} {cs : Array Value} {p : Addr} {vs : List Value}
theorem New.row (n : New h g h' t cs) : Row h' ⟨g, 0, none⟩ cs.toList := n.blk.row
theorem New.can (n : New h g h' t cs) {o m : Nat} (hm : Nat.ble (o + m) cs.size = true) : Can h' ⟨g, o, none⟩ m := n.blk.okAt (Nat.le_of_ble_eq_true hm)
theorem New.old (n : New h g h' t cs) {b : Nat} (hb : b ≤ h.size) : ∀ k, k < b → h'[k]? = h[k]? := fun k hk => n.ext.2 k (by omega)
theorem New.lt (n : New h g h' t cs) : g < h'.size := n.blk.lt
theorem Blk.can (b : Blk h g t cs) {o m : Nat} (hm : Nat.ble (o + m) cs.size = true) : Can h ⟨g, o, none⟩ m := b.okAt (Nat.le_of_ble_eq_true hm)
theorem Put.size (q : Put h p vs h') : h'.size = h.size := by rw [q.is]; exact setRow_size p vs 0 h
theorem Put.chg (q : Put h p vs h') : Chg (fun k => k = p.block) h h' := by rw [q.is]; exact setRow_chg p vs 0 h
theorem Put.ext (q : Put h p vs h') {a : Heap} (x : Ext a h) (hp : a.size ≤ p.block) : Ext a h' := x.then_new q.chg fun i hi => by rw [hi]; exact hp
theorem Put.all {g : Nat} (q : Put h ⟨g, 0, none⟩ vs h') (b : Blk h g t cs) (hl : vs.length = cs.size) : Blk h' g t vs.toArray := by rw [q.is]; exact b.whole hl
theorem Put.far (q : Put h p vs h') {g : Nat} (b : Blk h g t cs) (hg : g ≠ p.block) : Blk h' g t cs := b.chg q.chg hg
def over (cs : Array Value) (o : Nat) (vs : List Value) : Array Value := (cs.toList.take o ++ vs ++ cs.toList.drop (o + vs.length)).toArray
theorem Put.blk {g o : Nat} (q : Put h ⟨g, o, none⟩ vs h') (b : Blk h g t cs) {cs' : Array Value} (hl : Nat.ble (o + vs.length) cs.size = true) (he : over cs o vs = cs') : Blk h' g t cs' := by
  have hl := Nat.le_of_ble_eq_true hl
  obtain ⟨cs2, hb, hs, hget⟩ := Blk.setRow (p := ⟨g, o, none⟩) (g := g) rfl rfl vs 0 (h := h) b (by simpa using hl)
  have : cs2 = cs' := by
    subst he
    apply Array.ext_getElem?
    intro j
    rw [hget j]
    simp only [over, List.getElem?_toArray, Nat.add_zero]
    have hlt : (cs.toList.take o).length = o := by rw [List.length_take, Array.length_toList]; omega
    by_cases h1 : j < o
    · rw [if_neg (by omega), List.append_assoc, List.getElem?_append_left (by omega), List.getElem?_take, if_pos h1, Array.getElem?_toList]
    · by_cases h2 : j < o + vs.length
      · rw [if_pos ⟨by omega, h2⟩, List.append_assoc, List.getElem?_append_right (by omega), hlt, List.getElem?_append_left (by omega)]
      · rw [if_neg (by omega), List.getElem?_append_right (by rw [List.length_append]; omega), List.length_append, hlt, List.getElem?_drop, Array.getElem?_toList]
        congr 1; omega
  rw [← this, q.is]; exact hb
theorem New.put (n : New h g h' t cs) (q : Put h' ⟨g, 0, none⟩ vs h'') (hl : vs.length = cs.size) : New h g h'' t vs.toArray :=
  ⟨n.is, q.ext n.ext (by rw [n.is]; exact Nat.le_refl _), q.all n.blk hl, by rw [q.size, n.size]⟩
theorem New.part {o : Nat} (n : New h g h' t cs) (q : Put h' ⟨g, o, none⟩ vs h'') {cs' : Array Value} (hl : Nat.ble (o + vs.length) cs.size = true) (he : over cs o vs = cs') : New h g h'' t cs' :=
  ⟨n.is, q.ext n.ext (by rw [n.is]; exact Nat.le_refl _), q.blk n.blk hl he, by rw [q.size, n.size]⟩
end

section
variable {P : Program} [Tab P]

def weff (P : Program) [Tab P] (o : Oper) (e : Env) (h : Heap) (K : Value → Heap → Prop) : Prop :=
  match o.op with
  | .store t x y => match ev e x with
    | some (.pointer (some p)) => match ev e y with
      | some v => match tr P t with
        | some r => match r.ts.known with
          | true => match r.ts.agg with
            | false => (Nat.beq r.size 1 && v.oneCell') = true ∧ Can h p 1 ∧ ∀ h', Put h p [v] h' → K undef h'
            | true => match v with
              | .agg cs => (Nat.beq cs.size r.size && cs.toList.all Value.oneCell') = true ∧ Can h p r.size ∧ ∀ h', Put h p cs.toList h' → K undef h'
              | _ => False
          | false => False
        | none => False
      | none => False
    | _ => False
  | .alloc t => match tr P t with
    | some r => match r.zero with
      | some z => ∀ g h', New h g h' t z.cells → K (.pointer (some ⟨g, 0, none⟩)) h'
      | none => False
    | none => False
  | .box t x => match ev e x with
    | some v => ∀ g h', New h g h' t v.cells → K (.pointer (some ⟨g, 0, none⟩)) h'
    | none => False
  | _ => veff P o e h K

theorem weff_veff {o : Oper} {e : Env} {h : Heap} {K : Value → Heap → Prop} (hw : weff P o e h K) : veff P o e h K := by
  obtain ⟨dst, op, type, pos, after, guard⟩ := o
  cases op with
  | store t x y =>
    simp only [weff, veff] at hw ⊢
    split at hw <;> try exact hw.elim
    rename_i p h1
    simp only [h1]
    split at hw <;> try exact hw.elim
    rename_i v h2
    simp only [h2]
    split at hw <;> try exact hw.elim
    rename_i r h3
    simp only [h3]
    split at hw <;> try exact hw.elim
    rename_i h4
    simp only [h4]
    split at hw
    · rename_i h5
      simp only [h5]
      obtain ⟨h1, h2, h3⟩ := hw
      simp only [Bool.and_eq_true, Nat.beq_eq] at h1
      obtain ⟨hc, hf⟩ := h2 0 (by omega)
      rw [add_zero] at hc hf
      refine ⟨h1.1, h1.2, hc, hf, ?_⟩
      have := h3 _ ⟨rfl⟩
      simpa [setRow, add_zero] using this
    · rename_i h5
      simp only [h5]
      split at hw <;> try exact hw.elim
      obtain ⟨h1, h2, h3⟩ := hw
      simp only [Bool.and_eq_true, Nat.beq_eq, List.all_eq_true] at h1
      exact ⟨h1.1, h1.2, h2, h3 _ ⟨rfl⟩⟩
  | alloc t =>
    simp only [weff, veff] at hw ⊢
    split at hw <;> try exact hw.elim
    rename_i r h1
    simp only [h1]
    split at hw <;> try exact hw.elim
    rename_i z h2
    simp only [h2]
    exact hw _ _ (New.push _ _ _)
  | box t x =>
    simp only [weff, veff] at hw ⊢
    split at hw <;> try exact hw.elim
    rename_i v h1
    simp only [h1]
    exact hw _ _ (New.push _ _ _)
  | _ => exact hw

def wop (P : Program) [Tab P] (wy : Way) (o : Oper) (e : Env) (h : Heap) (K : Value → Heap → Prop) : Prop :=
  match clsOf P wy.kind wy.slots o with
  | .pure => vpure P o e fun v => K v h
  | .load => vold P wy.bound o e h fun v => K v h
  | .read => vread P o e h fun v => K v h
  | .ext => weff P o e h fun v h' => (∀ k, wy.bound k → h'[k]? = h[k]?) ∧ K v h'
  | .eff => weff P o e h K

def wlist (P : Program) [Tab P] (wy : Way) (ops : List Oper) (K : Env → Heap → Prop) : List Oper → Env → Heap → Prop
  | [], e, h => K e h
  | o :: r, e, h =>
    match wantedE ops o e with
    | some true => wop P wy o e h fun v h' => wlist P wy ops K r (putE o.dst v e) h'
    | some false => wlist P wy ops K r (putE o.dst undef e) h
    | none => False

theorem wlist_slL {n : Nat} {wy : Way} {ops : Array Oper} {K : Env → Heap → Prop} {w0 : World} (hd : dstsB n ops.toList = true) {Kw : Act → World → Prop} (hKw : ∀ e a w, Rep n e a → Keep w0 w → K e w.heap → Kw a w) :
    ∀ (L : List Nat) (l : List Oper) (e : Env) (a : Act) (w : World), (L.map fun i => ops[i]?) = l.map some → Rep n e a → Keep w0 w → wlist P wy ops.toList K l e w.heap →
      sl wy.bound P ops (clsOf P wy.kind wy.slots) Kw L a w
  | [], [], e, a, w, _, hr, hk, h => hKw e a w hr hk h
  | [], _ :: _, _, _, _, hl, _, _, _ => by cases hl
  | _ :: _, [], _, _, _, hl, _, _, _ => by cases hl
  | k :: L, o :: r, e, a, w, hl, hr, hk, h => by
    simp only [List.map_cons, List.cons.injEq] at hl
    obtain ⟨ho, hl'⟩ := hl
    have hdo : ∀ d, o.dst = some d → d < n := fun d hod => by
      have hm : o ∈ ops.toList := by
        obtain ⟨hlt, he⟩ := Array.getElem?_eq_some_iff.1 ho
        rw [← he]; exact Array.mem_toList_iff.2 (Array.getElem_mem hlt)
      have := (List.all_eq_true.1 hd) o hm
      simp only [hod] at this
      simpa [Nat.blt_eq] using this
    simp only [sl, sopi, ho]
    simp only [wlist] at h
    unfold sop cont
    split at h <;> try exact h.elim
    · rename_i hw
      rw [if_pos (wantedE_eq hr hw)]
      unfold wop at h
      split <;> rename_i hc <;> simp only [hc] at h
      · obtain ⟨v, hy, hF⟩ := vpure_run hr h
        exact ⟨v, hy, wlist_slL hd hKw L r _ _ w hl' (hr.put o.dst v hdo) hk hF⟩
      · obtain ⟨v, hy, hF⟩ := vold_run hr h
        exact ⟨v, hy, wlist_slL hd hKw L r _ _ w hl' (hr.put o.dst v hdo) hk hF⟩
      · obtain ⟨v, hy, hF⟩ := vread_run hr h
        exact ⟨v, hy, fun w' hs => wlist_slL hd hKw L r _ _ w' hl' (hr.put o.dst v hdo) (hk.trans hs.2) (by rw [hs.1]; exact hF)⟩
      · exact (veff_run hr (weff_veff h)).mono fun v w' ⟨hk', ha, hF⟩ => ⟨ha, wlist_slL hd hKw L r _ _ w' hl' (hr.put o.dst v hdo) (hk.trans hk') hF⟩
      · exact (veff_run hr (weff_veff h)).mono fun v w' ⟨hk', hF⟩ => wlist_slL hd hKw L r _ _ w' hl' (hr.put o.dst v hdo) (hk.trans hk') hF
    · rename_i hw
      rw [if_neg (by rw [wantedE_eq hr hw]; simp)]
      exact wlist_slL hd hKw L r _ _ w hl' (hr.put o.dst undef hdo) hk h

theorem range_map (ops : Array Oper) : ((List.range ops.size).map fun i => ops[i]?) = ops.toList.map some := by
  apply List.ext_getElem?
  intro j
  simp only [List.getElem?_map, Array.getElem?_toList]
  by_cases hj : j < ops.size
  · rw [List.getElem?_range hj]; simp [hj]
  · rw [List.getElem?_eq_none (by simp; omega), Array.getElem?_eq_none (by omega)]; rfl

def wellD (n : Nat) : Code → Bool
  | .region _ ops _ => dstsB n ops.toList
  | .seq a b => wellD n a && wellD n b
  | .cond _ a b => wellD n a && wellD n b
  | .block _ c => wellD n c
  | .loop c => wellD n c
  | _ => true

/-- The statement, its slots told by e, over the heap h: behind it Q. (L: the regions ahead of which the reckoning stops.) -/
structure St (P : Program) [Tab P] (n : Nat) (L : List Nat) (c : Code) (Q : Exit → Env → Heap → Prop) (e : Env) (h : Heap) : Prop where
  ok : wellD n c = true → Sat P n c Q e h

def panics (o : Oper) : Bool := match o.op with
  | .panic _ => true
  | _ => false
def falls : Code → Bool
  | .region _ ops _ => !(ops.toList.any panics)
  | .seq a b => falls a && falls b
  | .cond _ a b => falls a || falls b
  | .exit _ | .ret | .goto _ | .refuse _ => false
  | _ => true
/-- Do ways meet behind it, or is it a loop? -/
def joins : Code → Bool
  | .seq a b => joins a || joins b
  | .cond _ a b => (falls a && falls b) || joins a || joins b
  | .block _ c => joins c
  | .loop _ => true
  | _ => false

def headId : Code → Option Nat
  | .region id _ _ => some id
  | .seq a _ => headId a
  | .block _ c => headId c
  | _ => none
def stopAt (L : List Nat) (c : Code) : Bool := match headId c with
  | some id => L.any fun x => Nat.beq x id
  | none => false
def wpC (P : Program) [Tab P] (n : Nat) (L : List Nat) : Code → (Exit → Env → Heap → Prop) → Env → Heap → Prop
  | .skip, Q, e, h => Q .normal e h
  | .exit id, Q, e, h => Q (.exit id) e h
  | .ret, Q, e, h => Q .ret e h
  | .label _, Q, e, h => Q .normal e h
  | .region id ops draw, Q, e, h => bif draw then St P n L (.region id ops true) Q e h else wlist P .plain ops.toList (fun e h => Q .normal e h) ops.toList e h
  | .seq a b, Q, e, h => bif joins a || stopAt L a then St P n L (.seq a b) Q e h else wpC P n L a (fun x e h => match x with | .normal => wpC P n L b Q e h | x => Q x e h) e h
  | .cond c a b, Q, e, h => match ev e c with
    | some (.bool true) => wpC P n L a Q e h
    | some (.bool false) => wpC P n L b Q e h
    | _ => False
  | .block id c, Q, e, h => wpC P n L c (QBlock id Q) e h
  | c, Q, e, h => St P n L c Q e h

theorem region_sat {n : Nat} {id : Nat} {ops : Array Oper} {Q : Exit → Env → Heap → Prop} {e : Env} {h : Heap} (hd : dstsB n ops.toList = true) (hs : wlist P .plain ops.toList (fun e h => Q .normal e h) ops.toList e h) : Sat P n (.region id ops false) Q e h := fun a w hr hw => by
  subst hw
  refine wp_region_plain (b := Way.bound .plain) (cl := clsOf P (Way.kind .plain) (Way.slots .plain)) (K := fun a' w' => ∃ e', Rep n e' a' ∧ Keep w w' ∧ Q .normal e' w'.heap) (fun a' w' h => h) ?_
  exact wlist_slL (w0 := w) hd (fun e a w hr hk h => ⟨e, hr, hk, h⟩) (List.range ops.size) ops.toList e a w (range_map ops) hr (Keep.refl w) hs

theorem wpC_sat {n : Nat} {L : List Nat} : ∀ {c : Code} {Q : Exit → Env → Heap → Prop} {e : Env} {h : Heap}, wellD n c = true → wpC P n L c Q e h → Sat P n c Q e h
  | .skip, Q, e, h, _, hs => Sat.skip hs
  | .exit id, Q, e, h, _, hs => Sat.exit hs
  | .ret, Q, e, h, _, hs => Sat.ret hs
  | .label l, Q, e, h, _, hs => Sat.label hs
  | .region id ops false, Q, e, h, hd, hs => region_sat hd hs
  | .region id ops true, Q, e, h, hd, hs => hs.ok hd
  | .seq a b, Q, e, h, hd, hs => by
    simp only [wpC] at hs
    cases hj : joins a || stopAt L a with
    | true => rw [hj] at hs; exact hs.ok hd
    | false =>
      rw [hj] at hs
      simp only [cond_false] at hs
      have hd' := hd
      simp only [wellD, Bool.and_eq_true] at hd'
      refine Sat.seq ((wpC_sat hd'.1 hs).mono fun x e h hq => ?_)
      cases x with
      | normal => exact wpC_sat hd'.2 hq
      | _ => exact hq
  | .cond c a b, Q, e, h, hd, hs => by
    simp only [wellD, Bool.and_eq_true] at hd
    refine Sat.cond ?_
    simp only [wpC] at hs
    unfold VCond
    split at hs <;> try exact hs.elim
    · rename_i hc; simp only [hc]; exact wpC_sat hd.1 hs
    · rename_i hc; simp only [hc]; exact wpC_sat hd.2 hs
  | .block id c, Q, e, h, hd, hs => Sat.block (wpC_sat (by simpa [wellD] using hd) hs)
  | .loop c, Q, e, h, hd, hs => hs.ok hd
  | .rangeFunc _ _ _ _, Q, e, h, hd, hs => hs.ok hd
  | .scope _, Q, e, h, hd, hs => hs.ok hd
  | .goto _, Q, e, h, hd, hs => hs.ok hd
  | .refuse _, Q, e, h, hd, hs => hs.ok hd

variable {n : Nat} {L : List Nat} {Q : Exit → Env → Heap → Prop} {e : Env} {h : Heap}

/-- On, with no cut. -/
theorem St.go {a b : Code} (hs : wpC P n L a (fun x e h => match x with | .normal => wpC P n L b Q e h | x => Q x e h) e h) : St P n L (.seq a b) Q e h := ⟨fun hd => by
  simp only [wellD, Bool.and_eq_true] at hd
  refine Sat.seq ((wpC_sat hd.1 hs).mono fun x e h hq => ?_)
  cases x with
  | normal => exact wpC_sat hd.2 hq
  | _ => exact hq⟩
/-- Where ways meet again. -/
theorem St.cut {X : Type} (mid : X → Env) (H : X → Heap → Prop) {a b : Code}
    (ha : wpC P n L a (fun ex e' h' => match ex with | .normal => ∃ y, Sub (mid y) e' ∧ H y h' | ex => Q ex e' h') e h)
    (hb : ∀ y h', H y h' → wpC P n L b Q (mid y) h') : St P n L (.seq a b) Q e h := ⟨fun hd => by
  simp only [wellD, Bool.and_eq_true] at hd
  exact Sat.cut mid H (wpC_sat hd.1 ha) fun y h' hy => wpC_sat hd.2 (hb y h' hy)⟩
theorem St.loop {X : Type} (inv : X → Env) (H : X → Heap → Prop) (μ : X → Nat) (x0 : X) {c : Code} (h0 : Sub (inv x0) e) (hH : H x0 h)
    (round : ∀ x h, H x h → wpC P n L c (fun ex e' h' => match ex with | .normal => ∃ y, Sub (inv y) e' ∧ H y h' ∧ μ y < μ x | ex => Q ex e' h') (inv x) h) : St P n L (.loop c) Q e h := ⟨fun hd =>
  Sat.loop inv H μ x0 h0 hH fun x h hx => wpC_sat (by simpa [wellD] using hd) (round x h hx)⟩
/-- A region whose order is open, walked in the text's order. -/
theorem St.drawn (wy : Way) {id : Nat} {ops : Array Oper} (hok : okOrder ops (clsOf P wy.kind wy.slots) = true) (hs : wlist P wy ops.toList (fun e h => Q .normal e h) ops.toList e h) : St P n L (.region id ops true) Q e h := ⟨fun hd a w hr hw => by
  subst hw
  refine wp_region_text (b := wy.bound) (cl := clsOf P wy.kind wy.slots) (K := fun a' w' => ∃ e', Rep n e' a' ∧ Keep w w' ∧ Q .normal e' w'.heap) (Tab.mixed) hok (fun a' w' h => h) ?_
  exact wlist_slL (w0 := w) hd (fun e a w hr hk h => ⟨e, hr, hk, h⟩) (List.range ops.size) ops.toList e a w.drew (range_map ops) hr (Keep.refl w) hs⟩
theorem St.sub {c : Code} {e' : Env} (hsub : Sub e' e) (hs : wpC P n L c Q e' h) : St P n L c Q e h := ⟨fun hd => Sat.sub hsub (wpC_sat hd hs)⟩

theorem FnS.goL (L : List Nat) {f : FuncId} {fn : Func} {c : Code} {args : List Value} {h : Heap} {R : Value → Heap → Prop} (hf : P.funcs[f]? = some fn) (hb : fn.body = some c) (hnm : (fn.name == "runtime.NumGoroutine") = false) (hn : Nat.ble args.length fn.ntmps = true) (hd : wellD fn.ntmps c = true)
    (hs : wpC P fn.ntmps L c (QFn P fn.results.toList R) (initE args 0) h) : FnS P f args h R :=
  FnS.intro hf hb hnm hn (wpC_sat hd hs)
theorem FnS.go {f : FuncId} {fn : Func} {c : Code} {args : List Value} {h : Heap} {R : Value → Heap → Prop} (hf : P.funcs[f]? = some fn) (hb : fn.body = some c) (hnm : (fn.name == "runtime.NumGoroutine") = false) (hn : Nat.ble args.length fn.ntmps = true) (hd : wellD fn.ntmps c = true)
    (hs : wpC P fn.ntmps [] c (QFn P fn.results.toList R) (initE args 0) h) : FnS P f args h R := FnS.goL [] hf hb hnm hn hd hs

theorem one_lit {t e es : Nat} {z : Value} {by_ : Nat} (hi : slInfo P t = some (e, es, z, by_)) {x : Value} (hx : x.cells.size = es) {h : Heap} {K : Value → Heap → Prop} (hK : ∀ g h', New h g h' e x.cells → K (.slice (some ⟨g, 0, none⟩) 1 1) h') : RunsV P (Instr.buildSlice t 1 #[(0, x)]) h K :=
  lit_one hi hx (hK _ _ (New.push _ _ _))
theorem zero_lit {t e es : Nat} {z : Value} {by_ : Nat} (hi : slInfo P t = some (e, es, z, by_)) {h : Heap} {K : Value → Heap → Prop} (hK : ∀ g h', New h g h' e #[] → K (.slice (some ⟨g, 0, none⟩) 0 0) h') : RunsV P (Instr.buildSlice t 0 #[]) h K :=
  lit_zero hi (hK _ _ (New.push _ _ _))
theorem some_lit {t e es len : Nat} {z : Value} {by_ : Nat} (hi : slInfo P t = some (e, es, z, by_)) (hes : Nat.blt 0 (len * es) = true) (hsm : Nat.ble (len * es) 16777216 = true)
    {parts : List (Nat × Value)} {cells : Array Value} (hf : Instr.fill (fun i => some (i * es, es)) ((Array.range (len * es)).map (z.cells[· % z.cells.size]!)) parts = some cells)
    {h : Heap} {K : Value → Heap → Prop} (hK : ∀ g h', New h g h' e cells → K (.slice (some ⟨g, 0, none⟩) len len) h') : RunsV P (Instr.buildSlice t len parts.toArray) h K :=
  lit_some hi hes hsm hf (hK _ _ (New.push _ _ _))
theorem New.own0 {g e : Nat} {h h' : Heap} (nw : New h g h' e #[]) {base es : Nat} (hb : base ≤ h.size) : Own h' base e es (.slice (some ⟨g, 0, none⟩) 0 0) 0 [] :=
  ⟨by simp, .inr ⟨g, 0, #[], rfl, by rw [nw.is]; exact hb, nw.blk, Nat.le_refl _, Nat.zero_le _, by simp, by simp⟩⟩
end
end Go.V
