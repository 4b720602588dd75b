/- Operations that read and that write, lists of operations, statements, loops, calls: each with the law that it is sound. -/
import Derived.Test.YtobjkcmiicflmaaV3
set_option linter.unusedVariables false
set_option linter.unusedSimpArgs false
set_option linter.unusedSectionVars false
namespace Go.V
open Go

section
variable {P : Program} [Tab P]

/-- The function f, called so over the heap h, returns; R: what holds of its value and the heap behind it. -/
structure FnS (P : Program) (f : FuncId) (args : List Value) (h : Heap) (R : Value → Heap → Prop) : Prop where
  isF : ∃ fn, P.funcs[f]? = some fn ∧ fn.body.isSome = true ∧ (fn.name == "runtime.NumGoroutine") = false
  run : ∀ w : World, w.heap = h → Calls P f args.toArray w fun x w' => ∃ v, x = .returned v ∧ Keep w w' ∧ R v w'.heap
theorem FnS.mono {f : FuncId} {args : List Value} {h : Heap} {R R' : Value → Heap → Prop} (hf : FnS P f args h R) (hR : ∀ v h, R v h → R' v h) : FnS P f args h R' :=
  ⟨hf.1, fun w hw => (hf.2 w hw).mono fun x w' ⟨v, hx, hk, hr⟩ => ⟨v, hx, hk, hR _ _ hr⟩⟩

structure RunsV (P : Program) (s : Sem Value) (h : Heap) (K : Value → Heap → Prop) : Prop where
  run : ∀ w : World, w.heap = h → ∃ v w', s.run P w = .ok v w' ∧ Keep w w' ∧ K v w'.heap
structure RunsU (P : Program) (s : Sem Unit) (h : Heap) (K : Value → Heap → Prop) : Prop where
  run : ∀ w : World, w.heap = h → ∃ w', s.run P w = .ok () w' ∧ Keep w w' ∧ K undef w'.heap
inductive Reads (P : Program) (s : Sem Value) (h : Heap) (F : Value → Prop) : Prop where
  | mk (v : Value) (run : ∀ w : World, w.heap = h → s.run P w = .ok v w) (post : F v)
theorem RunsV.mono {s : Sem Value} {h : Heap} {K K' : Value → Heap → Prop} (hs : RunsV P s h K) (hK : ∀ v h, K v h → K' v h) : RunsV P s h K' := ⟨fun w hw =>
  let ⟨v, w', a, b, c⟩ := hs.run w hw; ⟨v, w', a, b, hK _ _ c⟩⟩

/-- Which function is called, with what. -/
def vcallee (P : Program) (c : Call) (e : Env) (h : Heap) (G : FuncId → List Value → Prop) : Prop :=
  match c.callee with
  | .value f => match ev e f with
    | some (.func (.func g) first cap) => match evs e c.args.toList with
      | some vs => G g (first.toList ++ vs ++ cap.toList)
      | none => False
    | some (.func (.via t path g ptr) first cap) => match evs e c.args.toList with
      | some vs => match first.toList ++ vs with
        | x :: rest => ∃ rcv, (∀ w : World, w.heap = h → (receiverVia t x path ptr).run P w = .ok rcv w) ∧ G g (rcv :: rest)
        | [] => False
      | none => False
    | _ => False
  | .invoke r name => match ev e r with
    | some (.iface t v) => match evs e c.args.toList with
      | some vs => ∃ g rcv, (∀ w : World, w.heap = h → (method (P.types.size + Made.depth) t v name).run P w = .ok (g, rcv) w) ∧ G g (rcv :: vs)
      | none => False
    | _ => False
  | .builtin _ => False

def setRow (h : Heap) (p : Addr) : List Value → Nat → Heap
  | [], _ => h
  | v :: r, i => setRow (setH h (p.add i) v) p r (i + 1)

def vread (P : Program) [Tab P] (o : Oper) (e : Env) (h : Heap) (F : Value → Prop) : Prop :=
  match o.op with
  | .load t x => match ev e x with
    | some (.pointer (some p)) => vload P t p h F
    | _ => False
  | .lookup t m k ok => match ev e m with
    | some vm => match ev e k with
      | some vk => Reads P (Instr.lookup t vm vk ok) h F
      | none => False
    | none => False
  | .convert src dst x => match ev e x with
    | some v => Reads P (convert src dst v) h F
    | none => False
  | .call c => match c.callee with
    | .builtin .len => match evs e c.args.toList with
      | some vs => Reads P (Builtin.len_ c.argTypes o.type vs.toArray) h F
      | none => False
    | .builtin _ => False
    | _ => ∃ v, vcallee P c e h (fun g vs => FnS P g vs h (fun v' h' => v' = v ∧ h' = h)) ∧ F v
  | _ => False

def veff (P : Program) [Tab P] (o : Oper) (e : Env) (h : Heap) (K : Value → Heap → Prop) : Prop :=
  match o.op with
  | .store t x y => match ev e x with
    | some (.pointer (some p)) => match ev e y with
      | some v => match tr P t with
        | some r => match r.ts.known with
          | true => match r.ts.agg with
            | false => r.size = 1 ∧ v.oneCell' = true ∧ (∃ u, cellH h p = some u) ∧ frozenH h p = false ∧ K undef (setH h p v)
            | true => match v with
              | .agg cs => cs.size = r.size ∧ (∀ u ∈ cs.toList, u.oneCell' = true) ∧ (∀ j, j < r.size → (∃ u, cellH h (p.add j) = some u) ∧ frozenH h (p.add j) = false) ∧ K undef (setRow h p cs.toList 0)
              | _ => False
          | false => False
        | none => False
      | none => False
    | _ => False
  | .alloc t => match tr P t with
    | some r => match r.zero with
      | some z => K (.pointer (some ⟨h.size, 0, none⟩)) (h.push (.cells z.cells t))
      | none => False
    | none => False
  | .box t x => match ev e x with
    | some v => K (.pointer (some ⟨h.size, 0, none⟩)) (h.push (.cells v.cells t))
    | none => False
  | .buildSlice t len parts => match evs e (parts.toList.map (·.2)) with
    | some vs => RunsV P (Instr.buildSlice t len ((parts.toList.map (·.1)).zip vs).toArray) h K
    | none => False
  | .makeSlice t l c => match ev e l with
    | some vl => match ev e c with
      | some vc => RunsV P (Instr.makeSlice t vl vc) h K
      | none => False
    | none => False
  | .makeMap t r => match r with
    | none => RunsV P (Instr.makeMap t none) h K
    | some x => match ev e x with
      | some v => RunsV P (Instr.makeMap t (some v)) h K
      | none => False
  | .mapUpdate t m k x => match ev e m with
    | some vm => match ev e k with
      | some vk => match ev e x with
        | some vx => RunsU P (Instr.mapUpdate t vm vk vx) h K
        | none => False
      | none => False
    | none => False
  | .range t x => match ev e x with
    | some v => RunsV P (Instr.range t v) h K
    | none => False
  | .next x s => match ev e x with
    | some v => RunsV P (Instr.next v s o.type) h K
    | none => False
  | .convert src dst x => match ev e x with
    | some v => RunsV P (convert src dst v) h K
    | none => False
  | .call c => match c.callee with
    | .builtin .append => match evs e c.args.toList with
      | some vs => RunsV P (Builtin.append_ c.argTypes o.type vs.toArray) h K
      | none => False
    | .builtin .copy => match evs e c.args.toList with
      | some vs => RunsV P (Builtin.copy_ c.argTypes o.type vs.toArray) h K
      | none => False
    | .builtin .delete => match evs e c.args.toList with
      | some vs => RunsV P (Builtin.delete_ c.argTypes o.type vs.toArray) h K
      | none => False
    | .builtin .clear => match evs e c.args.toList with
      | some vs => RunsV P (Builtin.clear_ c.argTypes o.type vs.toArray) h K
      | none => False
    | .builtin .cap => match evs e c.args.toList with
      | some vs => RunsV P (Builtin.cap_ c.argTypes o.type vs.toArray) h K
      | none => False
    | .builtin _ => False
    | _ => vcallee P c e h fun g vs => FnS P g vs h K
  | _ => False

def tsAt (P : Program) [Tab P] (t : Nat) : TS := match tr P t with
  | some r => r.ts
  | none => .other
/-- How a region is walked. plain: as it stands · quiet: its calls leave all as it is · old b ex: its loads read below block b; what makes memory, and the calls and appends whose slots ex names, leave all below b as it was · olds: stores too. -/
inductive Way where
  | plain | quiet | old (b : Nat) (ex : List Nat) | olds (b : Nat) (ex : List Nat) | kept (S : Nat → Prop) (ex : List Nat)
def inSlots (ex : List Nat) (o : Oper) : Bool := match o.dst with
  | some d => ex.any fun x => Nat.beq x d
  | none => false
/-- The class of an operation (kind 0: plain, 1: quiet, 2: old). -/
def clsOf (P : Program) [Tab P] (kind : Nat) (ex : List Nat) (o : Oper) : Cls :=
  match o.op with
  | .move _ | .assign _ | .pick .. | .binOp .. | .unOp .. | .nilCheck _ | .fieldAddr .. | .field .. | .indexAddr .. | .index .. | .slice .. | .extract .. | .makeInterface .. | .makeFunc .. | .typeAssert .. | .build .. => .pure
  | .convert s d _ => match tsAt P s with
    | .slice .. => .read
    | _ => match tsAt P d with
      | .slice .. => bif Nat.ble 2 kind then .ext else .eff
      | _ => .pure
  | .load .. => bif Nat.ble 2 kind then .load else .read
  | .lookup .. => .read
  | .call c => match c.callee with
    | .builtin .len => match c.argTypes.toList with
      | [t] => match tsAt P t with
        | .slice .. | .str => .pure
        | _ => .read
      | _ => .read
    | .builtin .min | .builtin .max => .pure
    | .builtin _ => bif inSlots ex o then .ext else .eff
    | _ => bif Nat.beq kind 1 then .read else bif inSlots ex o then .ext else .eff
  | .alloc _ | .box .. | .buildSlice .. | .makeSlice .. | .makeMap .. => bif Nat.ble 2 kind then .ext else .eff
  | .store .. => bif Nat.beq kind 3 then .ext else .eff
  | _ => .eff
def Way.kind : Way → Nat
  | .plain => 0 | .quiet => 1 | .old .. => 2 | .olds .. => 3 | .kept .. => 3
def Way.slots : Way → List Nat
  | .old _ ex => ex
  | .olds _ ex => ex
  | .kept _ ex => ex
  | _ => []
def Way.bound : Way → Nat → Prop
  | .old b _ => fun k => k < b
  | .olds b _ => fun k => k < b
  | .kept S _ => S
  | _ => fun _ => False

def vold (P : Program) [Tab P] (b : Nat → Prop) (o : Oper) (e : Env) (h : Heap) (F : Value → Prop) : Prop :=
  match o.op with
  | .load t x => match ev e x with
    | some (.pointer (some p)) => b p.block ∧ vload P t p h F
    | _ => False
  | _ => False
def vop (P : Program) [Tab P] (wy : Way) (o : Oper) (e : Env) (h : Heap) (K : Value → Heap → Prop) : Prop :=
  match clsOf P wy.kind wy.slots o with
  | .pure => vpure P o e fun v => K v h
  | .load => vold P wy.bound o e h fun v => K v h
  | .read => vread P o e h fun v => K v h
  | .ext => veff P o e h fun v h' => (∀ k, wy.bound k → h'[k]? = h[k]?) ∧ K v h'
  | .eff => veff P o e h K

def wantedE (ops : List Oper) (o : Oper) (e : Env) : Option Bool :=
  match o.guard with
  | none => some true
  | some (j, want) => match nthDst ops j with
    | some t => match get e t with
      | some (.bool true) => some want
      | some (.bool false) => some (!want)
      | some (.tuple _) => some false
      | _ => none
    | none => none

/-- What must hold ahead of a list of operations for K to hold behind it. -/
def vlist (P : Program) [Tab P] (wy : Way) (n : Nat) (ops : List Oper) (K : Env → Heap → Prop) : List Oper → Env → Heap → Prop
  | [], e, h => K e h
  | o :: r, e, h =>
    match wantedE ops o e with
    | some true => vop P wy o e h fun v h' => vlist P wy n ops K r (putE o.dst v e) h'
    | some false => vlist P wy n ops K r (putE o.dst undef e) h
    | none => False

theorem callFunc_run {f : FuncId} {args : List Value} {fn : Func} (h1 : P.funcs[f]? = some fn) (h2 : fn.body.isSome = true) (h3 : (fn.name == "runtime.NumGoroutine") = false) (xs : Array Value) (w : World) :
    (callFunc f xs).run P w = .ok (.enter f xs) w := by
  have h4 : fn.body.isNone = false := by cases hb : fn.body <;> simp_all
  unfold callFunc
  rw [Sem.run_bind, run_program, Result.andThen_ok]
  simp only [h1]
  rw [if_neg (by rw [h3]; simp), if_neg (by rw [h4]; simp)]
  rfl

theorem nthDst_eq : ∀ (l : List Oper) (j : Nat), nthDst l j = (l[j]?).bind (·.dst)
  | [], j => by simp [nthDst]
  | o :: r, 0 => by simp [nthDst]
  | o :: r, j + 1 => by simp [nthDst, nthDst_eq r j]

theorem wantedE_eq {n : Nat} {ops : Array Oper} {o : Oper} {e : Env} {a : Act} {b : Bool} (hr : Rep n e a) (h : wantedE ops.toList o e = some b) : Region.wanted o (yielded ops a.tmps) = b := by
  unfold wantedE at h
  unfold Region.wanted
  split at h
  · rename_i hg; rw [hg]; injection h
  · rename_i j want hg
    rw [hg]
    simp only
    split at h
    · rename_i t ht
      rw [nthDst_eq] at ht
      have ht' : (ops[j]?).bind (·.dst) = some t := by simpa using ht
      have hy : ∀ v, get e t = some v → yielded ops a.tmps j = (match v with | .bool b => some b | _ => none) := fun v hv => by
        unfold yielded
        rw [ht']
        simp only [Option.bind_some, hr.2.2 t v hv]
        cases v <;> rfl
      split at h
      · rename_i hv; injection h with h; subst h; rw [hy _ hv]; cases want <;> rfl
      · rename_i hv; injection h with h; subst h; rw [hy _ hv]; cases want <;> rfl
      · rename_i hv; injection h with h; subst h; rw [hy _ hv]; cases want <;> rfl
      · cases h
    · cases h

theorem vcallee_run {n : Nat} {o : Oper} {c : Call} {e : Env} {a : Act} {h : Heap} {G : FuncId → List Value → Prop} (ho : o.op = .call c) (hr : Rep n e a) (hc : vcallee P c e h G) :
    ∃ g vs, G g vs ∧ ((∃ fn, P.funcs[g]? = some fn ∧ fn.body.isSome = true ∧ (fn.name == "runtime.NumGoroutine") = false) → ∀ w : World, w.heap = h → (execOp a.eval o).run P w = .ok (.enter g vs.toArray) w) := by
  obtain ⟨callee, args, argTypes⟩ := c
  have ea : ∀ {vs : List Value}, evs e args.toList = some vs → args.map a.eval = vs.toArray := fun hvs => by rw [← hr.evs hvs]; apply Array.ext'; simp
  cases callee with
  | builtin b => exact hc.elim
  | value f =>
    simp only [vcallee] at hc
    split at hc <;> try exact hc.elim
    · rename_i g first cap hf
      split at hc <;> try exact hc.elim
      rename_i vs hvs
      refine ⟨g, _, hc, fun ⟨fn, h1, h2, h3⟩ w hw => ?_⟩
      simp only [execOp, ho, resolve, hr.ev hf, ea hvs, Deferred.ofValue, invoke, Sem.run_bind, Sem.run_pure, Result.andThen_ok]
      rw [callFunc_run (args := vs) h1 h2 h3]
      congr 2
      apply Array.ext'
      simp
    · rename_i t path g ptr first cap hf
      split at hc <;> try exact hc.elim
      rename_i vs hvs
      split at hc <;> try exact hc.elim
      rename_i x rest hx
      obtain ⟨rcv, hrun, hG⟩ := hc
      refine ⟨g, _, hG, fun ⟨fn, h1, h2, h3⟩ w hw => ?_⟩
      have e1 : first ++ vs.toArray = (x :: rest).toArray := by rw [← hx]; apply Array.ext'; simp
      simp only [execOp, ho, resolve, hr.ev hf, ea hvs, Deferred.ofValue, invoke, Sem.run_bind, Sem.run_pure, Result.andThen_ok, e1]
      simp only [List.getElem?_toArray, List.getElem?_cons_zero, Sem.run_bind, hrun w hw, Result.andThen_ok]
      rw [callFunc_run (args := vs) h1 h2 h3]
      congr 2
      apply Array.ext'
      simp
  | invoke r name =>
    simp only [vcallee] at hc
    split at hc <;> try exact hc.elim
    rename_i t v hf
    split at hc <;> try exact hc.elim
    rename_i vs hvs
    obtain ⟨g, rcv, hrun, hG⟩ := hc
    refine ⟨g, _, hG, fun ⟨fn, h1, h2, h3⟩ w hw => ?_⟩
    have e1 : #[Value.iface t v] ++ vs.toArray = (Value.iface t v :: vs).toArray := by apply Array.ext'; simp
    simp only [execOp, ho, resolve, hr.ev hf, ea hvs, invoke, Sem.run_bind, Sem.run_pure, Result.andThen_ok, e1]
    simp only [List.getElem?_toArray, List.getElem?_cons_zero, Sem.run_bind, callMethod, run_program, Result.andThen_ok, hrun w hw]
    rw [callFunc_run (args := vs) h1 h2 h3]
    congr 2
    apply Array.ext'
    simp

theorem vread_run {n : Nat} {o : Oper} {e : Env} {a : Act} {w : World} {F : Value → Prop} (hr : Rep n e a) (h : vread P o e w.heap F) : ∃ v, ReadY P o a w v ∧ F v := by
  obtain ⟨dst, op, type, pos, after, guard⟩ := o
  have done : ∀ {v : Value}, F v → (∀ w' : World, w'.heap = w.heap → (execOp a.eval ⟨dst, op, type, pos, after, guard⟩).run P w' = .ok (.value v) w') → ∃ v, ReadY P ⟨dst, op, type, pos, after, guard⟩ a w v ∧ F v :=
    fun hF hw => ⟨_, fun w' hs => .inl ⟨w', Sim.refl w', hw w' hs.1⟩, hF⟩
  cases op <;> simp only [vread] at h <;> try exact h.elim
  case load t x =>
    split at h <;> try exact h.elim
    rename_i p hx
    obtain ⟨v, hF, hv⟩ := vload_run h
    exact done hF fun w' hw => by simp [execOp, hr.ev hx, Instr.loadAt, Instr.sureAddr, hv w' hw]
  case lookup t m k ok =>
    split at h <;> try exact h.elim
    rename_i vm h1
    split at h <;> try exact h.elim
    rename_i vk h2
    obtain ⟨v, hv, hF⟩ := h
    exact done hF fun w' hw => by simp [execOp, hr.ev h1, hr.ev h2, hv w' hw]
  case convert s d x =>
    split at h <;> try exact h.elim
    rename_i vm h1
    obtain ⟨v, hv, hF⟩ := h
    exact done hF fun w' hw => by simp [execOp, hr.ev h1, hv w' hw]
  case call c =>
    have quiet : (∃ v, vcallee P c e w.heap (fun g vs => FnS P g vs w.heap (fun v' h' => v' = v ∧ h' = w.heap)) ∧ F v) → ∃ v, ReadY P ⟨dst, .call c, type, pos, after, guard⟩ a w v ∧ F v := by
      rintro ⟨v, hc, hF⟩
      obtain ⟨g, vs, hfn, hrun⟩ := vcallee_run (o := ⟨dst, .call c, type, pos, after, guard⟩) rfl hr hc
      refine ⟨v, fun w' hs => .inr ⟨w', g, vs.toArray, Sim.refl w', hrun hfn.1 w' hs.1, ?_⟩, hF⟩
      refine (hfn.2 w' hs.1).mono fun x w3 ⟨v', hx, hk, hv, hh⟩ => ?_
      subst hv
      exact ⟨hx, by rw [hh, hs.1], hk⟩
    obtain ⟨callee, args, argTypes⟩ := c
    have ea : ∀ {vs : List Value}, evs e args.toList = some vs → args.map a.eval = vs.toArray := fun hvs => by rw [← hr.evs hvs]; apply Array.ext'; simp
    cases callee with
    | value f => exact quiet h
    | invoke f nm => exact quiet h
    | builtin b =>
      cases b <;> simp only at h <;> try exact h.elim
      case len =>
        split at h <;> try exact h.elim
        rename_i vs hvs
        obtain ⟨v, hv, hF⟩ := h
        exact done hF fun w' hw => by simp [execOp, resolve, ea hvs, invoke, builtin, hv w' hw]

theorem run_store_one {w : World} {p : Addr} {v : Value} (h1 : v.oneCell' = true) (hc : ∃ u, cellH w.heap p = some u) (hf : frozenH w.heap p = false) : (store p v).run P w = .ok () (w.setCell p v) := by
  obtain ⟨u, hu⟩ := hc
  have hc' : w.cell? p = some u := hu
  have hf' : w.frozen? p = false := hf
  rw [run_store P w p v .plain h1]
  simp [stored, hc', hf']

theorem cellH_setH_some {h : Heap} {p q : Addr} {v : Value} (hc : ∃ u, cellH h q = some u) : ∃ u, cellH (setH h p v) q = some u := by
  obtain ⟨u, hu⟩ := hc
  have w : World := { heap := h, tape := fun _ _ => 0, drawn := 0, os := default, output := #[] }
  by_cases e : p = q
  · subst e
    have := World.cell?_setCell_same { heap := h, tape := fun _ _ => 0, drawn := 0, os := default, output := #[] } p v (u := u) hu
    exact ⟨v, this⟩
  · have := World.cell?_setCell_other { heap := h, tape := fun _ _ => 0, drawn := 0, os := default, output := #[] } p q v e
    exact ⟨u, by rw [← hu]; exact this⟩
theorem frozenH_setH (h : Heap) (p q : Addr) (v : Value) : frozenH (setH h p v) q = frozenH h q :=
  World.frozen?_setCell { heap := h, tape := fun _ _ => 0, drawn := 0, os := default, output := #[] } p q v

theorem run_storeCells_row (p : Addr) : ∀ (vs : List Value) (i : Nat) (w : World), (∀ u ∈ vs, u.oneCell' = true) → (∀ j, i ≤ j → j < i + vs.length → (∃ u, cellH w.heap (p.add j) = some u) ∧ frozenH w.heap (p.add j) = false) →
    ∃ w', (storeCells p vs i).run P w = .ok () w' ∧ Keep w w' ∧ w'.heap = setRow w.heap p vs i
  | [], i, w, _, _ => ⟨w, by simp [storeCells], Keep.refl w, rfl⟩
  | v :: r, i, w, h1, hc => by
    have h0 := hc i (Nat.le_refl _) (by simp)
    have hs := run_store_one (P := P) (h1 v (List.mem_cons_self ..)) h0.1 h0.2
    obtain ⟨w', hr, hk, hh⟩ := run_storeCells_row p r (i + 1) (w.setCell (p.add i) v) (fun u hu => h1 u (List.mem_cons_of_mem _ hu)) (fun j hj1 hj2 => by
      have := hc j (by omega) (by simp only [List.length_cons]; omega)
      rw [setCell_heap]
      exact ⟨cellH_setH_some this.1, by rw [frozenH_setH]; exact this.2⟩)
    refine ⟨w', ?_, Keep.trans ⟨rfl, rfl, rfl⟩ hk, hh⟩
    simp only [storeCells, Sem.run_bind, hs, Result.andThen_ok]
    exact hr

theorem veff_run {n : Nat} {o : Oper} {e : Env} {a : Act} {w : World} {K : Value → Heap → Prop} (hr : Rep n e a) (h : veff P o e w.heap K) : EffY P o a w fun v w' => Keep w w' ∧ K v w'.heap := by
  obtain ⟨dst, op, type, pos, after, guard⟩ := o
  have doneV : ∀ {s : Sem Value}, RunsV P s w.heap K → (execOp a.eval ⟨dst, op, type, pos, after, guard⟩ = do pure (.value (← s))) → EffY P ⟨dst, op, type, pos, after, guard⟩ a w fun v w' => Keep w w' ∧ K v w'.heap := fun hs he => by
    obtain ⟨v, w', hrun, hk, hK⟩ := hs.run w rfl
    exact ⟨.value v, w', by rw [he]; simp [hrun], hk, hK⟩
  have doneU : ∀ {s : Sem Unit}, RunsU P s w.heap K → (execOp a.eval ⟨dst, op, type, pos, after, guard⟩ = do s; pure .skip) → EffY P ⟨dst, op, type, pos, after, guard⟩ a w fun v w' => Keep w w' ∧ K v w'.heap := fun hs he => by
    obtain ⟨w', hrun, hk, hK⟩ := hs.run w rfl
    exact ⟨.skip, w', by rw [he]; simp [hrun], hk, hK⟩
  cases op <;> simp only [veff] at h <;> try exact h.elim
  case store t x y =>
    split at h <;> try exact h.elim
    rename_i p hx
    split at h <;> try exact h.elim
    rename_i v hy
    split at h <;> try exact h.elim
    rename_i r htr
    split at h <;> try exact h.elim
    rename_i hkn
    obtain ⟨i, hi, _, hsz, _⟩ := tr_ok htr
    split at h
    · obtain ⟨hs1, h1, hc, hf, hK⟩ := h
      refine ⟨.skip, w.setCell p v, ?_, ⟨rfl, rfl, rfl⟩, hK⟩
      have hcs : v.cells = #[v] := by cases v <;> first | rfl | cases h1
      have e0 : p.add 0 = p := by simp [Addr.add]
      simp only [execOp, hr.ev hx, hr.ev hy, Instr.storeAt, Instr.sureAddr, storeVar, Sem.run_bind, Sem.run_pure, Result.andThen_ok, run_sizeOf hi, hcs, hsz, hs1]
      simp [storeCells, e0, run_store_one h1 hc hf]
    · split at h <;> try exact h.elim
      rename_i cs
      obtain ⟨hs1, h1, hc, hK⟩ := h
      obtain ⟨w', hrun, hk, hh⟩ := run_storeCells_row (P := P) p cs.toList 0 w h1 (fun j _ hj => hc j (by simp at hj; omega))
      refine ⟨.skip, w', ?_, hk, by rw [hh]; exact hK⟩
      have hcs : (Value.agg cs).cells = cs := rfl
      simp only [execOp, hr.ev hx, hr.ev hy, Instr.storeAt, Instr.sureAddr, storeVar, Sem.run_bind, Sem.run_pure, Result.andThen_ok, run_sizeOf hi, hcs, hsz, hs1]
      simp [hrun]
  case alloc t =>
    split at h <;> try exact h.elim
    rename_i r htr
    split at h <;> try exact h.elim
    rename_i z hz
    obtain ⟨i, hi, _, _, hz'⟩ := tr_ok htr
    refine ⟨.value (.pointer (some ⟨w.heap.size, 0, none⟩)), w.alloc (.cells z.cells t), ?_, ⟨rfl, rfl, rfl⟩, h⟩
    simp [execOp, Instr.alloc, zeroValue, typeInfo, hi, hz', hz, newVar, newRow]
  case box t x =>
    split at h <;> try exact h.elim
    rename_i v hx
    refine ⟨.value (.pointer (some ⟨w.heap.size, 0, none⟩)), w.alloc (.cells v.cells t), ?_, ⟨rfl, rfl, rfl⟩, h⟩
    simp [execOp, hr.ev hx, Instr.box, newVar, newRow]
  case buildSlice t len parts =>
    split at h <;> try exact h.elim
    rename_i vs hvs
    have e1 := hr.evs hvs
    have e2 : (parts.map fun (x : Nat × Operand) => (x.1, a.eval x.2)) = ((parts.toList.map (·.1)).zip vs).toArray := by
      rw [← e1]
      apply Array.ext'
      simp only [Array.toList_map]
      induction parts.toList with
      | nil => rfl
      | cons p l ih => simp [ih]
    exact doneV h (by simp only [execOp]; rw [← e2])
  case makeSlice t l c =>
    split at h <;> try exact h.elim
    rename_i vl hl
    split at h <;> try exact h.elim
    rename_i vc hc
    exact doneV h (by simp only [execOp, hr.ev hl, hr.ev hc])
  case makeMap t r =>
    split at h
    · exact doneV h (by simp only [execOp, Option.map_none])
    · split at h <;> try exact h.elim
      rename_i v hv
      exact doneV h (by simp only [execOp, Option.map_some, hr.ev hv])
  case mapUpdate t m k x =>
    split at h <;> try exact h.elim
    rename_i v1 h1
    split at h <;> try exact h.elim
    rename_i v2 h2
    split at h <;> try exact h.elim
    rename_i v3 h3
    exact doneU h (by simp only [execOp, hr.ev h1, hr.ev h2, hr.ev h3])
  case range t x =>
    split at h <;> try exact h.elim
    rename_i v1 h1
    exact doneV h (by simp only [execOp, hr.ev h1])
  case next x s =>
    split at h <;> try exact h.elim
    rename_i v1 h1
    exact doneV h (by simp only [execOp, hr.ev h1])
  case convert s d x =>
    split at h <;> try exact h.elim
    rename_i v1 h1
    exact doneV h (by simp only [execOp, hr.ev h1])
  case call c =>
    have call : vcallee P c e w.heap (fun g vs => FnS P g vs w.heap K) → EffY P ⟨dst, .call c, type, pos, after, guard⟩ a w fun v w' => Keep w w' ∧ K v w'.heap := fun hc => by
      obtain ⟨g, vs, hfn, hrun⟩ := vcallee_run (o := ⟨dst, .call c, type, pos, after, guard⟩) rfl hr hc
      refine ⟨.enter g vs.toArray, w, hrun hfn.1 w rfl, ?_⟩
      exact (hfn.2 w rfl).mono fun x w' ⟨v, hx, hk, hK⟩ => ⟨v, hx, hk, hK⟩
    obtain ⟨callee, args, argTypes⟩ := c
    have ea : ∀ {vs : List Value}, evs e args.toList = some vs → args.map a.eval = vs.toArray := fun hvs => by rw [← hr.evs hvs]; apply Array.ext'; simp
    cases callee with
    | value f => exact call h
    | invoke f nm => exact call h
    | builtin b =>
      cases b <;> simp only at h <;> try exact h.elim
      all_goals
        split at h <;> try exact h.elim
        rename_i vs hvs
        exact doneV h (by simp only [execOp, resolve, ea hvs, invoke, builtin]; rfl)

/-! ### lists of operations -/
def dstsB (n : Nat) (ops : List Oper) : Bool := ops.all fun o => match o.dst with
  | some d => Nat.blt d n
  | none => true

theorem vold_run {n : Nat} {b : Nat → Prop} {o : Oper} {e : Env} {a : Act} {w : World} {F : Value → Prop} (hr : Rep n e a) (h : vold P b o e w.heap F) : ∃ v, LoadY b P o a w v ∧ F v := by
  obtain ⟨dst, op, type, pos, after, guard⟩ := o
  cases op <;> simp only [vold] at h <;> try exact h.elim
  case load t x =>
    split at h <;> try exact h.elim
    rename_i p hx
    obtain ⟨hb, h⟩ := h
    have key : ∃ v, F v ∧ ∀ w' : World, Agr b w w' → (loadVar t p).run P w' = .ok v w' := by
      have hcell : ∀ {q : Addr} {w' : World}, b q.block → Agr b w w' → cellH w'.heap q = cellH w.heap q := fun {q w'} hq ha => by unfold cellH; rw [ha _ hq]
      have hblk : ∀ j, (p.add j).block = p.block := fun j => by unfold Addr.add; split <;> rfl
      unfold vload at h
      split at h <;> try exact h.elim
      rename_i r hr'
      split at h <;> try exact h.elim
      rename_i hk
      split at h
      · rename_i hagg
        obtain ⟨cs, hl, hrow, hF⟩ := h
        refine ⟨_, hF, fun w' ha => ?_⟩
        obtain ⟨i, hi, _, hsz, _⟩ := tr_ok hr'
        have hc := run_loadCells_list (P := P) w' p cs (fun j v hv => by rw [cell?_eq, hcell (by rw [hblk]; exact hb) ha]; exact hrow j v hv)
        rw [hl, ← hsz] at hc
        simp [loadVar, run_isAgg hr' hk, hagg, run_sizeOf hi, hc]
      · rename_i hagg
        obtain ⟨v, hc, hF⟩ := h
        refine ⟨v, hF, fun w' ha => ?_⟩
        have hc' : w'.cell? p = some v := by rw [cell?_eq, hcell hb ha]; exact hc
        simp [loadVar, run_isAgg hr' hk, hagg, hc']
    obtain ⟨v, hF, hl⟩ := key
    exact ⟨v, fun w' ha => by simp [execOp, hr.ev hx, Instr.loadAt, Instr.sureAddr, hl w' ha], hF⟩

theorem vlist_sl {n : Nat} {wy : Way} {ops : Array Oper} {K : Env → Heap → Prop} {w0 : World} (hd : dstsB n ops.toList = true) :
    ∀ (l : List Oper) (k : Nat) (e : Env) (a : Act) (w : World), (∀ j, l[j]? = ops[k + j]?) → Rep n e a → Keep w0 w → vlist P wy n ops.toList K l e w.heap →
      sl wy.bound P ops (clsOf P wy.kind wy.slots) (fun a' w' => ∃ e', Rep n e' a' ∧ Keep w0 w' ∧ K e' w'.heap) (List.range' k l.length) a w
  | [], k, e, a, w, _, hr, hk, h => ⟨e, hr, hk, h⟩
  | o :: r, k, e, a, w, hl, hr, hk, h => by
    have ho : ops[k]? = some o := by simpa using (hl 0).symm
    have hl' : ∀ j, r[j]? = ops[k + 1 + j]? := fun j => by
      have := hl (j + 1)
      simp only [List.getElem?_cons_succ] at this
      rw [this]; congr 1; omega
    have hdo : ∀ d, o.dst = some d → d < n := fun d hod => by
      have hm : o ∈ ops.toList := by
        have := Array.getElem?_eq_some_iff.1 ho
        obtain ⟨hlt, he⟩ := this
        rw [← he]; exact Array.mem_toList_iff.2 (Array.getElem_mem hlt)
      have := (List.all_eq_true.1 hd) o hm
      simp only [hod] at this
      simpa [Nat.blt_eq] using this
    simp only [List.length_cons, List.range'_succ, sl, sopi, ho]
    simp only [vlist] at h
    unfold sop cont
    split at h <;> try exact h.elim
    · rename_i hw
      rw [if_pos (wantedE_eq hr hw)]
      unfold vop at h
      split <;> rename_i hc <;> simp only [hc] at h
      · obtain ⟨v, hy, hF⟩ := vpure_run hr h
        exact ⟨v, hy, vlist_sl hd r (k + 1) _ _ w hl' (hr.put o.dst v hdo) hk hF⟩
      · obtain ⟨v, hy, hF⟩ := vold_run hr h
        exact ⟨v, hy, vlist_sl hd r (k + 1) _ _ w hl' (hr.put o.dst v hdo) hk hF⟩
      · obtain ⟨v, hy, hF⟩ := vread_run hr h
        exact ⟨v, hy, fun w' hs => vlist_sl hd r (k + 1) _ _ w' hl' (hr.put o.dst v hdo) (hk.trans hs.2) (by rw [hs.1]; exact hF)⟩
      · exact (veff_run hr h).mono fun v w' ⟨hk', ha, hF⟩ => ⟨ha, vlist_sl hd r (k + 1) _ _ w' hl' (hr.put o.dst v hdo) (hk.trans hk') hF⟩
      · exact (veff_run hr h).mono fun v w' ⟨hk', hF⟩ => vlist_sl hd r (k + 1) _ _ w' hl' (hr.put o.dst v hdo) (hk.trans hk') hF
    · rename_i hw
      rw [if_neg (by rw [wantedE_eq hr hw]; simp)]
      exact vlist_sl hd r (k + 1) _ _ w hl' (hr.put o.dst undef hdo) hk h

/-! ### statements -/
def lift (n : Nat) (w0 : World) (Q : Exit → Env → Heap → Prop) : Exit → Act → World → Prop := fun x a w => ∃ e, Rep n e a ∧ Keep w0 w ∧ Q x e w.heap
/-- The statement c, its slots as e says, over the heap h. -/
def Sat (P : Program) (n : Nat) (c : Code) (Q : Exit → Env → Heap → Prop) (e : Env) (h : Heap) : Prop :=
  ∀ a w, Rep n e a → w.heap = h → c.wp P (lift n w Q) a w

variable {n : Nat} {Q : Exit → Env → Heap → Prop} {e : Env} {h : Heap}

theorem lift_keep {w w' : World} (hk : Keep w w') {x : Exit} {a : Act} {w2 : World} (hl : lift n w' Q x a w2) : lift n w Q x a w2 := by
  obtain ⟨e, hr, hk', hq⟩ := hl
  exact ⟨e, hr, hk.trans hk', hq⟩

theorem Sat.mono {c : Code} {Q' : Exit → Env → Heap → Prop} (hs : Sat P n c Q e h) (hq : ∀ x e h, Q x e h → Q' x e h) : Sat P n c Q' e h := fun a w hr hw =>
  Code.wp_mono (fun x a' w' ⟨e', hr', hk, hQ⟩ => ⟨e', hr', hk, hq _ _ _ hQ⟩) (hs a w hr hw)

theorem Sat.skip (hq : Q .normal e h) : Sat P n .skip Q e h := fun a w hr hw => wp_skip ⟨e, hr, Keep.refl w, by subst hw; exact hq⟩
theorem Sat.exit {id : Nat} (hq : Q (.exit id) e h) : Sat P n (.exit id) Q e h := fun a w hr hw => wp_exit ⟨e, hr, Keep.refl w, by subst hw; exact hq⟩
theorem Sat.ret (hq : Q .ret e h) : Sat P n .ret Q e h := fun a w hr hw => wp_ret ⟨e, hr, Keep.refl w, by subst hw; exact hq⟩
theorem Sat.label {l : Nat} (hq : Q .normal e h) : Sat P n (.label l) Q e h := fun a w hr hw => wp_label ⟨e, hr, Keep.refl w, by subst hw; exact hq⟩

def QSeq (P : Program) (n : Nat) (b : Code) (Q : Exit → Env → Heap → Prop) : Exit → Env → Heap → Prop := fun x e h => match x with
  | .normal => Sat P n b Q e h
  | x => Q x e h
theorem Sat.seq {a b : Code} (hs : Sat P n a (QSeq P n b Q) e h) : Sat P n (.seq a b) Q e h := fun ac w hr hw => by
  refine wp_seq (Code.wp_mono ?_ (hs ac w hr hw))
  rintro x a' w' ⟨e', hr', hk, hq⟩
  cases x with
  | normal =>
    refine Code.wp_mono (fun x a2 w2 hl => lift_keep hk hl) (hq a' w' hr' rfl)
  | _ => exact ⟨e', hr', hk, hq⟩

def VCond (P : Program) (n : Nat) (c : Operand) (a b : Code) (Q : Exit → Env → Heap → Prop) (e : Env) (h : Heap) : Prop :=
  match ev e c with
  | some (.bool true) => Sat P n a Q e h
  | some (.bool false) => Sat P n b Q e h
  | _ => False
theorem Sat.cond {c : Operand} {x y : Code} (hs : VCond P n c x y Q e h) : Sat P n (.cond c x y) Q e h := fun a w hr hw => by
  unfold VCond at hs
  split at hs <;> try exact hs.elim
  · rename_i hc; exact wp_cond_true (hr.ev hc) (hs a w hr hw)
  · rename_i hc; exact wp_cond_false (hr.ev hc) (hs a w hr hw)

def QBlock (id : Nat) (Q : Exit → Env → Heap → Prop) : Exit → Env → Heap → Prop := fun x e h => match x with
  | .exit id' => bif Nat.beq id' id then Q .normal e h else Q (.exit id') e h
  | x => Q x e h
theorem Sat.block {id : Nat} {c : Code} (hs : Sat P n c (QBlock id Q) e h) : Sat P n (.block id c) Q e h := fun a w hr hw => by
  refine wp_block (Code.wp_mono ?_ (hs a w hr hw))
  rintro x a' w' ⟨e', hr', hk, hq⟩
  cases x with
  | exit id' =>
    simp only [Exit.inBlock]
    simp only [QBlock] at hq
    by_cases hid : id' = id
    · rw [if_pos hid]
      have : Nat.beq id' id = true := by rw [hid]; exact Nat.beq_refl id
      rw [this] at hq
      exact ⟨e', hr', hk, hq⟩
    · rw [if_neg hid]
      have : Nat.beq id' id = false := by
        cases hb : Nat.beq id' id with
        | false => rfl
        | true => exact absurd (Nat.eq_of_beq_eq_true hb) hid
      rw [this] at hq
      exact ⟨e', hr', hk, hq⟩
  | _ => exact ⟨e', hr', hk, hq⟩

theorem Sat.region {id : Nat} {ops : Array Oper} (hd : dstsB n ops.toList = true) (hs : vlist P .plain n ops.toList (fun e h => Q .normal e h) ops.toList e h) : Sat P n (.region id ops false) Q e h := fun a w hr hw => by
  subst hw
  refine wp_region_plain (b := Way.bound .plain) (cl := clsOf P (Way.kind .plain) (Way.slots .plain)) (K := fun a' w' => ∃ e', Rep n e' a' ∧ Keep w w' ∧ Q .normal e' w'.heap) (fun a' w' h => h) ?_
  have := vlist_sl (w0 := w) hd ops.toList 0 e a w (by simp) hr (Keep.refl w) hs
  rwa [Array.length_toList, ← List.range_eq_range'] at this
/-- A region whose order is open, walked in the text's order. -/
theorem Sat.drawn (wy : Way) {id : Nat} {ops : Array Oper} (hd : dstsB n ops.toList = true) (hok : okOrder ops (clsOf P wy.kind wy.slots) = true)
    (hs : vlist P wy n ops.toList (fun e h => Q .normal e h) ops.toList e h) : Sat P n (.region id ops true) Q e h := fun a w hr hw => by
  subst hw
  refine wp_region_text (b := wy.bound) (cl := clsOf P wy.kind wy.slots) (K := fun a' w' => ∃ e', Rep n e' a' ∧ Keep w w' ∧ Q .normal e' w'.heap) (Tab.mixed) hok (fun a' w' h => h) ?_
  have := vlist_sl (w0 := w) hd ops.toList 0 e a w.drew (by simp) hr (Keep.refl w) hs
  rwa [Array.length_toList, ← List.range_eq_range'] at this

/-- What the slots of one say, the other says. -/
def Sub : Env → Env → Prop
  | [], _ => True
  | (t, v) :: r, e => get e t = some v ∧ Sub r e
theorem Sub.get : ∀ {e1 e2 : Env}, Sub e1 e2 → ∀ {t : Nat} {v : Value}, V.get e1 t = some v → V.get e2 t = some v
  | (u, x) :: r, e2, hs, t, v, h => by
    simp only [V.get] at h
    cases hb : Nat.beq u t with
    | true =>
      rw [hb] at h
      simp only [cond_true, Option.some.injEq] at h
      subst h
      have := Nat.eq_of_beq_eq_true hb
      subst this
      exact hs.1
    | false =>
      rw [hb] at h
      exact Sub.get hs.2 h
theorem Rep.sub {e1 e2 : Env} {a : Act} (hs : Sub e1 e2) (hr : Rep n e2 a) : Rep n e1 a := ⟨hr.1, hr.2.1, fun t v hv => hr.2.2 t v (hs.get hv)⟩

theorem Sat.sub {c : Code} {e' : Env} (hsub : Sub e' e) (hs : Sat P n c Q e' h) : Sat P n c Q e h := fun a w hr hw => hs a w (hr.sub hsub) hw

/-- A loop: at each round's head there is an x with these slots and this heap; μ falls from round to round. -/
theorem Sat.loop {X : Type} (inv : X → Env) (H : X → Heap → Prop) (μ : X → Nat) (x0 : X) {c : Code} (h0 : Sub (inv x0) e) (hH : H x0 h)
    (round : ∀ x h, H x h → Sat P n c (fun ex e' h' => match ex with | .normal => ∃ y, Sub (inv y) e' ∧ H y h' ∧ μ y < μ x | ex => Q ex e' h') (inv x) h) : Sat P n (.loop c) Q e h := fun a w hr hw => by
  subst hw
  intro b kk cs
  have key : ∀ (k : Nat) (x : X) (a : Act) (w1 : World), μ x = k → Rep n (inv x) a → H x w1.heap → Keep w w1 →
      ∃ ex a' w', lift n w Q ex a' w' ∧ Arrives P (lone (b.at a (.code c :: .inLoop c :: kk)) cs w1) b kk cs ex a' w' := by
    intro k
    induction k using Nat.strongRecOn with
    | _ k ih =>
      intro x a w1 hk hra hHx hkeep
      obtain ⟨ex, a', w', hq, harr⟩ := round x w1.heap hHx a w1 hra rfl b (.inLoop c :: kk) cs
      obtain ⟨e', hr', hk', hq⟩ := hq
      cases ex with
      | normal =>
        obtain ⟨y, hsub, hHy, hlt⟩ := hq
        obtain ⟨e2, a2, w2, hq2, harr2⟩ := ih (μ y) (by omega) y a' w' rfl (hr'.sub hsub) hHy (hkeep.trans hk')
        exact ⟨e2, a2, w2, hq2, .of_steps (Steps.trans harr (.one step_inLoop)) harr2⟩
      | exit id => exact ⟨_, a', w', ⟨e', hr', hkeep.trans hk', hq⟩, .pass (x := .inLoop c) rfl (fun _ _ => .inl (by simp)) harr⟩
      | goto l => exact ⟨_, a', w', ⟨e', hr', hkeep.trans hk', hq⟩, .pass (x := .inLoop c) rfl (fun _ _ => .inl (by simp)) harr⟩
      | ret => exact ⟨_, a', w', ⟨e', hr', hkeep.trans hk', hq⟩, .pass (x := .inLoop c) rfl (fun _ _ => .inl (by simp)) harr⟩
      | panic ch => exact ⟨_, a', w', ⟨e', hr', hkeep.trans hk', hq⟩, .pass (x := .inLoop c) rfl (fun _ _ => .inl (by simp)) harr⟩
      | outgrown => exact ⟨_, a', w', ⟨e', hr', hkeep.trans hk', hq⟩, .pass (x := .inLoop c) rfl (fun _ _ => .inl (by simp)) harr⟩
  obtain ⟨ex, a', w', hq, harr⟩ := key _ x0 a w rfl (hr.sub h0) hH (Keep.refl w)
  exact ⟨ex, a', w', hq, .of_steps (.one step_loop) harr⟩

/-- Where ways meet again: behind a there is an x with these slots and this heap. -/
theorem Sat.cut {X : Type} (mid : X → Env) (H : X → Heap → Prop) {a b : Code}
    (ha : Sat P n a (fun ex e' h' => match ex with | .normal => ∃ y, Sub (mid y) e' ∧ H y h' | ex => Q ex e' h') e h)
    (hb : ∀ y h', H y h' → Sat P n b Q (mid y) h') : Sat P n (.seq a b) Q e h :=
  Sat.seq (ha.mono fun x e' h' hq => by
    cases x with
    | normal => obtain ⟨y, hsub, hH⟩ := hq; exact (hb y h' hH).sub hsub
    | _ => exact hq)

/-! ### calls -/
def initE : List Value → Nat → Env
  | [], _ => []
  | v :: r, k => (k, v) :: initE r (k + 1)
theorem initE_get : ∀ {vs : List Value} {k t : Nat} {v : Value}, get (initE vs k) t = some v → k ≤ t ∧ vs[t - k]? = some v
  | u :: r, k, t, v, h => by
    simp only [initE, get] at h
    cases hb : Nat.beq k t with
    | true =>
      rw [hb] at h
      simp only [cond_true, Option.some.injEq] at h
      subst h
      have := Nat.eq_of_beq_eq_true hb
      subst this
      exact ⟨Nat.le_refl _, by simp⟩
    | false =>
      rw [hb] at h
      have := initE_get (vs := r) h
      refine ⟨by omega, ?_⟩
      have e : t - k = (t - (k + 1)) + 1 := by omega
      rw [e, List.getElem?_cons_succ]
      exact this.2

def vres1 (P : Program) [Tab P] (e : Env) (h : Heap) (r : ResultVar) (F : Value → Prop) : Prop :=
  match r with
  | .tmp t => match get e t with
    | some v => F v
    | none => False
  | .cell t ty => match get e t with
    | some (.pointer (some p)) => vload P ty p h F
    | _ => False
def vresL (P : Program) [Tab P] (e : Env) (h : Heap) : List ResultVar → (List Value → Prop) → Prop
  | [], F => F []
  | r :: rs, F => vres1 P e h r fun v => vresL P e h rs fun vs => F (v :: vs)
def vres (P : Program) [Tab P] (e : Env) (h : Heap) (rs : List ResultVar) (F : Value → Prop) : Prop :=
  match rs with
  | [r] => vres1 P e h r F
  | rs => vresL P e h rs fun vs => F (.tuple vs.toArray)
/-- The body's end: its results. -/
def QFn (P : Program) [Tab P] (rs : List ResultVar) (R : Value → Heap → Prop) : Exit → Env → Heap → Prop := fun x e h => match x with
  | .normal => vres P e h rs fun v => R v h
  | .ret => vres P e h rs fun v => R v h
  | _ => False

def resSem (tmps : Array Value) (r : ResultVar) : Sem Value := match r with
  | .tmp t => pure (tmps.getD t undef)
  | .cell a t => do loadVar t (← asAddr (tmps.getD a undef))
theorem results_eq (fn : Func) (tmps : Array Value) : results fn tmps = (do let vs ← fn.results.mapM (resSem tmps); pure (if h : vs.size = 1 then vs[0] else .tuple vs)) := by
  unfold results
  congr 1
theorem vres1_run {r : ResultVar} {F : Value → Prop} {a : Act} (hr : Rep n e a) (hv : vres1 P e h r F) : ∃ v, F v ∧ ∀ w : World, w.heap = h → (resSem a.tmps r).run P w = .ok v w := by
  cases r with
  | tmp t =>
    simp only [vres1] at hv
    split at hv <;> try exact hv.elim
    rename_i v hg
    refine ⟨v, hv, fun w hw => ?_⟩
    have := hr.2.2 t v hg
    simp [resSem, this]
  | cell t ty =>
    simp only [vres1] at hv
    split at hv <;> try exact hv.elim
    rename_i p hg
    obtain ⟨v, hF, hl⟩ := vload_run hv
    refine ⟨v, hF, fun w hw => ?_⟩
    have := hr.2.2 t _ hg
    simp [resSem, this, asAddr, hl w hw]

theorem vresL_run {a : Act} (hr : Rep n e a) : ∀ {rs : List ResultVar} {F : List Value → Prop}, vresL P e h rs F → ∃ vs, F vs ∧ vs.length = rs.length ∧ ∀ w : World, w.heap = h →
    (rs.mapM (resSem a.tmps)).run P w = .ok vs w
  | [], F, hv => ⟨[], hv, rfl, fun w hw => by simp⟩
  | r :: rs, F, hv => by
    obtain ⟨v, hv', h1⟩ := vres1_run hr hv
    obtain ⟨vs, hF, hl, h2⟩ := vresL_run hr hv'
    refine ⟨v :: vs, hF, by simp [hl], fun w hw => ?_⟩
    rw [List.mapM_cons]
    simp only [Sem.run_bind, h1 w hw, Result.andThen_ok, h2 w hw, Sem.run_pure]

theorem vres_run {fn : Func} {F : Value → Prop} {a : Act} (hr : Rep n e a) (hv : vres P e h fn.results.toList F) : ∃ v, F v ∧ ∀ w : World, w.heap = h → (results fn a.tmps).run P w = .ok v w := by
  have key : ∀ {vs : List Value} (w : World), (fn.results.toList.mapM (resSem a.tmps)).run P w = .ok vs w →
      (results fn a.tmps).run P w = .ok (if h : vs.toArray.size = 1 then vs.toArray[0] else .tuple vs.toArray) w := by
    intro vs w hw
    rw [results_eq, Array.mapM_eq_mapM_toList]
    simp only [Sem.run_bind, Sem.run_map, hw, Result.andThen_ok, Sem.run_pure]
  unfold vres at hv
  split at hv
  · rename_i r hrs
    obtain ⟨v, hF, h1⟩ := vres1_run hr hv
    refine ⟨v, hF, fun w hw => ?_⟩
    have := key (vs := [v]) w (by rw [hrs, List.mapM_cons]; simp only [Sem.run_bind, h1 w hw, Result.andThen_ok, List.mapM_nil, Sem.run_pure])
    simpa using this
  · rename_i hne
    obtain ⟨vs, hF, hl, h1⟩ := vresL_run hr hv
    refine ⟨_, hF, fun w hw => ?_⟩
    have := key w (h1 w hw)
    rw [this]
    have : ¬ vs.toArray.size = 1 := by
      intro h1'
      simp only [List.size_toArray] at h1'
      rw [hl] at h1'
      obtain ⟨r, hr'⟩ := List.length_eq_one_iff.1 h1'
      exact hne r hr'
    rw [dif_neg this]

theorem FnS.intro {f : FuncId} {fn : Func} {c : Code} {args : List Value} {R : Value → Heap → Prop} (hf : P.funcs[f]? = some fn) (hb : fn.body = some c) (hnm : (fn.name == "runtime.NumGoroutine") = false) (hn : Nat.ble args.length fn.ntmps = true)
    (hs : Sat P fn.ntmps c (QFn P fn.results.toList R) (initE args 0) h) : FnS P f args h R := by
  refine ⟨⟨fn, hf, by rw [hb]; rfl, hnm⟩, fun w hw => ?_⟩
  refine calls_of_wp hf hb (Code.wp_mono ?_ (hs _ w ⟨rfl, ?_, fun t v hv => ?_⟩ hw))
  · rintro x a w' ⟨e', hr, hk, hq⟩
    cases x <;> simp only [QFn] at hq <;> try exact hq.elim
    · obtain ⟨v, hR, hrun⟩ := vres_run hr hq
      exact ⟨hr.1, v, hrun w' rfl, v, rfl, hk, hR⟩
    · obtain ⟨v, hR, hrun⟩ := vres_run hr hq
      exact ⟨hr.1, v, hrun w' rfl, v, rfl, hk, hR⟩
  · have := Nat.le_of_ble_eq_true hn
    simp
    omega
  · obtain ⟨_, hg⟩ := initE_get hv
    simp only [Nat.sub_zero] at hg
    have hlt : t < args.length := (List.getElem?_eq_some_iff.1 hg).1
    rw [Array.getElem?_append_left (by simpa using hlt)]
    simpa using hg
end
end Go.V
