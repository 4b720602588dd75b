/- What must hold ahead of a list of operations, reckoned: values flow through a list of slots; what is asked of memory and numbers stands as plain propositions. The law that it is sound. -/
import Derived.Test.YtobjkcmiicflmaaV1
import Derived.Lib.Strings
set_option linter.unusedVariables false
set_option linter.unusedSimpArgs false
set_option linter.unusedSectionVars false
namespace Go.V
open Go

abbrev Env := List (Nat × Value)
abbrev Heap := Array Obj

def get : Env → Nat → Option Value
  | [], _ => none
  | (t, v) :: r, n => bif Nat.beq t n then some v else get r n
def ev (e : Env) : Operand → Option Value
  | .tmp t => get e t
  | .const v => some v
  | .global g => some (.pointer (some ⟨g, 0, none⟩))
  | .func f => some (.func (.func f) #[] #[])
def evs (e : Env) : List Operand → Option (List Value)
  | [] => some []
  | x :: r => match ev e x with
    | some v => match evs e r with
      | some vs => some (v :: vs)
      | none => none
    | none => none
def putE (dst : Option Tmp) (v : Value) (e : Env) : Env := match dst with
  | some d => (d, v) :: e
  | none => e
def nthDst : List Oper → Nat → Option Tmp
  | [], _ => none
  | o :: _, 0 => o.dst
  | _ :: r, n + 1 => nthDst r n

def Rep (n : Nat) (e : Env) (a : Act) : Prop := a.defers = [] ∧ a.tmps.size = n ∧ ∀ t v, get e t = some v → a.tmps[t]? = some v

theorem Rep.ev {n : Nat} {e : Env} {a : Act} (h : Rep n e a) {x : Operand} {v : Value} (hx : ev e x = some v) : a.eval x = v := by
  cases x with
  | tmp t => have := h.2.2 t v hx; simp [Act.eval, this]
  | const u => simpa [V.ev, Act.eval] using hx
  | global g => simpa [V.ev, Act.eval] using hx
  | func f => simpa [V.ev, Act.eval] using hx
theorem Rep.evs {n : Nat} {e : Env} {a : Act} (h : Rep n e a) : ∀ {xs : List Operand} {vs : List Value}, evs e xs = some vs → xs.map a.eval = vs
  | [], vs, hx => by simpa [V.evs] using hx
  | x :: r, vs, hx => by
    simp only [V.evs] at hx
    cases h1 : V.ev e x with
    | none => simp [h1] at hx
    | some v =>
      cases h2 : V.evs e r with
      | none => simp [h1, h2] at hx
      | some us =>
        simp only [h1, h2, Option.some.injEq] at hx
        subst hx
        simp [h.ev h1, h.evs h2]
theorem Rep.put {n : Nat} {e : Env} {a : Act} (h : Rep n e a) (dst : Option Tmp) (v : Value) (hd : ∀ d, dst = some d → d < n) : Rep n (putE dst v e) (a.put dst v) := by
  cases dst with
  | none => exact h
  | some d =>
    refine ⟨h.1, by simp [Act.put, h.2.1], fun t u hu => ?_⟩
    simp only [putE, get] at hu
    by_cases hdt : d = t
    · subst hdt
      have : Nat.beq d d = true := Nat.beq_refl d
      rw [this] at hu
      simp only [cond_true, Option.some.injEq] at hu
      subst hu
      have hlt : d < a.tmps.size := by rw [h.2.1]; exact hd d rfl
      simp [Act.put, hlt]
    · have : Nat.beq d t = false := by
        cases hb : Nat.beq d t with
        | false => rfl
        | true => exact absurd (Nat.eq_of_beq_eq_true hb) hdt
      rw [this] at hu
      have := h.2.2 t u hu
      simp [Act.put, Array.getElem?_setIfInBounds_ne hdt, this]

/-! ### memory -/
def cellH (h : Heap) (p : Addr) : Option Value :=
  match h[p.block]? with
  | some (.cells c _ _) => if p.spot.isSome then none else c[p.off]?
  | _ => none
def frozenH (h : Heap) (p : Addr) : Bool :=
  match h[p.block]? with
  | some (.cells _ _ (lo, hi)) => lo ≤ p.off && p.off < hi
  | _ => false
def setH (h : Heap) (p : Addr) (v : Value) : Heap :=
  h.modify p.block fun
    | .cells c elem frozen => .cells (if p.spot.isSome then c else c.setIfInBounds p.off v) elem frozen
    | o => o
theorem cell?_eq (w : World) (p : Addr) : w.cell? p = cellH w.heap p := rfl
theorem frozen?_eq (w : World) (p : Addr) : w.frozen? p = frozenH w.heap p := rfl
theorem setCell_heap (w : World) (p : Addr) (v : Value) : (w.setCell p v).heap = setH w.heap p v := rfl
/-- These cells stand from p on. -/
def Row (h : Heap) (p : Addr) (xs : List Value) : Prop := ∀ j v, xs[j]? = some v → cellH h (p.add j) = some v

/-! ### types -/
inductive TS where
  | other | bool | int (k : IntKind) | str | iface | ptr (e : Nat) | func
  | slice (e es : Nat)
  | strct (fs : List (Nat × Nat × Nat))
  | arr (n e es : Nat)
  | map (k e : Nat)
def TS.agg : TS → Bool
  | .strct _ | .arr .. => true
  | _ => false
def TS.isIface : TS → Bool
  | .iface | .other => true
  | _ => false
structure TRow where
  ts : TS
  size : Nat
  bytes : Nat
  zero : Option Value
def szOf (P : Program) (t : Nat) : Nat := match P.info? t with
  | some i => i.size
  | none => 0
def tsD (P : Program) : TypeDesc → TS
  | .bool => .bool
  | .int k => .int k
  | .string => .str
  | .interface _ => .iface
  | .pointer e => .ptr e
  | .func .. => .func
  | .slice e => match P.info? e with
    | some i => .slice e i.size
    | none => .other
  | .struct fs => if fs.toList.all (fun f => (P.info? f.type).isSome) then .strct (fs.toList.map fun f => (f.offset, f.type, szOf P f.type)) else .other
  | .array n e => match P.info? e with
    | some i => .arr n e i.size
    | none => .other
  | .map k e => .map k e
  | _ => .other
def tsOf (P : Program) (t : Nat) : TS := match P.underlying t with
  | some d => tsD P d
  | none => .other
def probe (P : Program) (t : Nat) : Option TRow := match P.info? t with
  | none => none
  | some i => some { ts := tsOf P t, size := i.size, bytes := i.bytes, zero := i.zero }

abbrev Tys := List (Nat × TRow)
def tget : Tys → Nat → Option TRow
  | [], _ => none
  | (t, r) :: l, n => bif Nat.beq t n then some r else tget l n
class Tab (P : Program) where
  T : Tys
  ok : T.map (fun x => probe P x.1) = T.map (fun x => some x.2)
  mixed : P.follows .mixedOrders = true

theorem tget_mem : ∀ {T : Tys} {t : Nat} {r : TRow}, tget T t = some r → (t, r) ∈ T
  | (u, r') :: l, t, r, h => by
    simp only [tget] at h
    cases hb : Nat.beq u t with
    | true =>
      rw [hb] at h
      simp only [cond_true, Option.some.injEq] at h
      subst h
      have := Nat.eq_of_beq_eq_true hb
      subst this
      exact List.mem_cons_self ..
    | false =>
      rw [hb] at h
      exact List.mem_cons_of_mem _ (tget_mem h)
theorem map_eq_mem {α β : Type} {f g : α → β} : ∀ {l : List α}, l.map f = l.map g → ∀ x ∈ l, f x = g x
  | y :: l, h, x, hx => by
    simp only [List.map_cons, List.cons.injEq] at h
    rcases List.mem_cons.1 hx with rfl | hx
    · exact h.1
    · exact map_eq_mem h.2 x hx

section
variable {P : Program} [Tab P]

def tr (P : Program) [Tab P] (t : Nat) : Option TRow := tget (Tab.T P) t
theorem tr_ok {t : Nat} {r : TRow} (h : tr P t = some r) : ∃ i, P.info? t = some i ∧ tsOf P t = r.ts ∧ i.size = r.size ∧ i.zero = r.zero := by
  have h1 := map_eq_mem (Tab.ok (P := P)) _ (tget_mem h)
  simp only [probe] at h1
  cases hi : P.info? t with
  | none => simp [hi] at h1
  | some i =>
    simp only [hi, Option.some.injEq] at h1
    exact ⟨i, rfl, congrArg TRow.ts h1, congrArg TRow.size h1, congrArg TRow.zero h1⟩
theorem tr_bytes {t : Nat} {r : TRow} (h : tr P t = some r) : ∃ i, P.info? t = some i ∧ tsOf P t = r.ts ∧ i.size = r.size ∧ i.zero = r.zero ∧ i.bytes = r.bytes := by
  have h1 := map_eq_mem (Tab.ok (P := P)) _ (tget_mem h)
  simp only [probe] at h1
  cases hi : P.info? t with
  | none => simp [hi] at h1
  | some i =>
    simp only [hi, Option.some.injEq] at h1
    exact ⟨i, rfl, congrArg TRow.ts h1, congrArg TRow.size h1, congrArg TRow.zero h1, congrArg TRow.bytes h1⟩
theorem und_some {t : Nat} {i : TypeInfo} (h : P.info? t = some i) (hts : tsOf P t ≠ .other) : ∃ d, P.underlying t = some d := by
  cases hu : P.underlying t with
  | some d => exact ⟨d, rfl⟩
  | none => simp [tsOf, hu] at hts

theorem tsD_some {t : Nat} {s : TS} (h : tsOf P t = s) (hs : s ≠ .other) : ∃ d, P.underlying t = some d ∧ tsD P d = s := by
  unfold tsOf at h
  cases hu : P.underlying t with
  | none => rw [hu] at h; exact absurd h.symm hs
  | some d => rw [hu] at h; exact ⟨d, rfl, h⟩
theorem tsD_slice {d : TypeDesc} {e es : Nat} (h : tsD P d = .slice e es) : d = .slice e ∧ ∃ i, P.info? e = some i ∧ i.size = es := by
  cases d with
  | slice e' =>
    simp only [tsD] at h
    cases hi : P.info? e' with
    | none => rw [hi] at h; cases h
    | some i => rw [hi] at h; injection h with h1 h2; subst h1; exact ⟨rfl, i, hi, h2⟩
  | array n e' => simp only [tsD] at h; cases hi : P.info? e' <;> rw [hi] at h <;> cases h
  | struct fs => simp only [tsD] at h; split at h <;> cases h
  | _ => cases h
theorem tsD_arr {d : TypeDesc} {n e es : Nat} (h : tsD P d = .arr n e es) : d = .array n e ∧ ∃ i, P.info? e = some i ∧ i.size = es := by
  cases d with
  | array n' e' =>
    simp only [tsD] at h
    cases hi : P.info? e' with
    | none => rw [hi] at h; cases h
    | some i => rw [hi] at h; injection h with h0 h1 h2; subst h0; subst h1; exact ⟨rfl, i, hi, h2⟩
  | slice e' => simp only [tsD] at h; cases hi : P.info? e' <;> rw [hi] at h <;> cases h
  | struct fs => simp only [tsD] at h; split at h <;> cases h
  | _ => cases h
theorem tsD_strct {d : TypeDesc} {fs : List (Nat × Nat × Nat)} (h : tsD P d = .strct fs) :
    ∃ f, d = .struct f ∧ (∀ x ∈ f.toList, (P.info? x.type).isSome = true) ∧ f.toList.map (fun x => (x.offset, x.type, szOf P x.type)) = fs := by
  cases d with
  | array n' e' => simp only [tsD] at h; cases hi : P.info? e' <;> rw [hi] at h <;> cases h
  | slice e' => simp only [tsD] at h; cases hi : P.info? e' <;> rw [hi] at h <;> cases h
  | struct f =>
    simp only [tsD] at h
    split at h
    · rename_i hall
      injection h with h
      exact ⟨f, rfl, fun x hx => List.all_eq_true.1 hall x hx, h⟩
    · cases h
  | _ => cases h
theorem tsD_int {d : TypeDesc} {k : IntKind} (h : tsD P d = .int k) : d = .int k := by
  cases d with
  | int k' => injection h with h; rw [h]
  | array n' e' => simp only [tsD] at h; cases hi : P.info? e' <;> rw [hi] at h <;> cases h
  | slice e' => simp only [tsD] at h; cases hi : P.info? e' <;> rw [hi] at h <;> cases h
  | struct fs => simp only [tsD] at h; split at h <;> cases h
  | _ => cases h
theorem tsD_bool {d : TypeDesc} (h : tsD P d = .bool) : d = .bool := by
  cases d with
  | bool => rfl
  | array n' e' => simp only [tsD] at h; cases hi : P.info? e' <;> rw [hi] at h <;> cases h
  | slice e' => simp only [tsD] at h; cases hi : P.info? e' <;> rw [hi] at h <;> cases h
  | struct fs => simp only [tsD] at h; split at h <;> cases h
  | _ => cases h
theorem tsD_str {d : TypeDesc} (h : tsD P d = .str) : d = .string := by
  cases d with
  | string => rfl
  | array n' e' => simp only [tsD] at h; cases hi : P.info? e' <;> rw [hi] at h <;> cases h
  | slice e' => simp only [tsD] at h; cases hi : P.info? e' <;> rw [hi] at h <;> cases h
  | struct fs => simp only [tsD] at h; split at h <;> cases h
  | _ => cases h
theorem tsD_map {d : TypeDesc} {k e : Nat} (h : tsD P d = .map k e) : d = .map k e := by
  cases d with
  | map k' e' => injection h with h1 h2; rw [h1, h2]
  | array n' e' => simp only [tsD] at h; cases hi : P.info? e' <;> rw [hi] at h <;> cases h
  | slice e' => simp only [tsD] at h; cases hi : P.info? e' <;> rw [hi] at h <;> cases h
  | struct fs => simp only [tsD] at h; split at h <;> cases h
  | _ => cases h
theorem tsD_ptr {d : TypeDesc} {e : Nat} (h : tsD P d = .ptr e) : d = .pointer e := by
  cases d with
  | pointer e' => injection h with h; rw [h]
  | array n' e' => simp only [tsD] at h; cases hi : P.info? e' <;> rw [hi] at h <;> cases h
  | slice e' => simp only [tsD] at h; cases hi : P.info? e' <;> rw [hi] at h <;> cases h
  | struct fs => simp only [tsD] at h; split at h <;> cases h
  | _ => cases h
theorem und_slice {t e es : Nat} (h : tsOf P t = .slice e es) : P.underlying t = some (.slice e) ∧ ∃ i, P.info? e = some i ∧ i.size = es := by
  obtain ⟨d, hd, h⟩ := tsD_some h (by simp)
  obtain ⟨rfl, hi⟩ := tsD_slice h
  exact ⟨hd, hi⟩
theorem und_arr {t n e es : Nat} (h : tsOf P t = .arr n e es) : P.underlying t = some (.array n e) ∧ ∃ i, P.info? e = some i ∧ i.size = es := by
  obtain ⟨d, hd, h⟩ := tsD_some h (by simp)
  obtain ⟨rfl, hi⟩ := tsD_arr h
  exact ⟨hd, hi⟩
theorem und_strct {t : Nat} {fs : List (Nat × Nat × Nat)} (h : tsOf P t = .strct fs) :
    ∃ f, P.underlying t = some (.struct f) ∧ (∀ x ∈ f.toList, (P.info? x.type).isSome = true) ∧ f.toList.map (fun x => (x.offset, x.type, szOf P x.type)) = fs := by
  obtain ⟨d, hd, h⟩ := tsD_some h (by simp)
  obtain ⟨f, rfl, hi⟩ := tsD_strct h
  exact ⟨f, hd, hi⟩
theorem und_int {t : Nat} {k : IntKind} (h : tsOf P t = .int k) : P.underlying t = some (.int k) := by
  obtain ⟨d, hd, h⟩ := tsD_some h (by simp)
  rw [hd, tsD_int h]
theorem und_bool {t : Nat} (h : tsOf P t = .bool) : P.underlying t = some .bool := by
  obtain ⟨d, hd, h⟩ := tsD_some h (by simp)
  rw [hd, tsD_bool h]
theorem und_str {t : Nat} (h : tsOf P t = .str) : P.underlying t = some .string := by
  obtain ⟨d, hd, h⟩ := tsD_some h (by simp)
  rw [hd, tsD_str h]
theorem und_map {t k e : Nat} (h : tsOf P t = .map k e) : P.underlying t = some (.map k e) := by
  obtain ⟨d, hd, h⟩ := tsD_some h (by simp)
  rw [hd, tsD_map h]
theorem und_ptr {t e : Nat} (h : tsOf P t = .ptr e) : P.underlying t = some (.pointer e) := by
  obtain ⟨d, hd, h⟩ := tsD_some h (by simp)
  rw [hd, tsD_ptr h]
def aggD : TypeDesc → Bool
  | .struct _ | .array _ _ => true
  | _ => false
theorem tsD_agg {d : TypeDesc} (hne : tsD P d ≠ .other) : aggD d = (tsD P d).agg := by
  cases d with
  | slice e =>
    cases hi : P.info? e with
    | none => exact absurd (by simp only [tsD, hi]) hne
    | some i => simp only [tsD, hi]; rfl
  | array n e =>
    cases hi : P.info? e with
    | none => exact absurd (by simp only [tsD, hi]) hne
    | some i => simp only [tsD, hi]; rfl
  | struct f =>
    by_cases hall : f.toList.all (fun f => (P.info? f.type).isSome) = true
    · simp only [tsD]; rw [if_pos hall]; rfl
    · exact absurd (by simp only [tsD]; rw [if_neg hall]) hne
  | _ => rfl
theorem und_agg {t : Nat} {d : TypeDesc} (hts : tsOf P t ≠ .other) (h : P.underlying t = some d) : aggD d = (tsOf P t).agg := by
  have e : tsOf P t = tsD P d := by unfold tsOf; rw [h]
  rw [e] at hts ⊢
  exact tsD_agg hts

def TS.known : TS → Bool
  | .other => false
  | _ => true

/-- One variable of type t at p, read. -/
def vload (P : Program) [Tab P] (t : Nat) (p : Addr) (h : Heap) (F : Value → Prop) : Prop :=
  match tr P t with
  | some r => match r.ts.known with
    | true => match r.ts.agg with
      | true => ∃ cs : List Value, cs.length = r.size ∧ Row h p cs ∧ F (.agg cs.toArray)
      | false => ∃ v, cellH h p = some v ∧ F v
    | false => False
  | none => False

theorem known_ne {s : TS} (h : s.known = true) : s ≠ .other := by rintro rfl; cases h

theorem run_isAgg {t : Nat} {r : TRow} (h : tr P t = some r) (hk : r.ts.known = true) (w : World) : (isAgg t).run P w = .ok r.ts.agg w := by
  obtain ⟨i, hi, hts, _, _⟩ := tr_ok h
  have hne : tsOf P t ≠ .other := by rw [hts]; exact known_ne hk
  obtain ⟨d, hd⟩ := und_some hi hne
  have := und_agg hne hd
  unfold isAgg
  rw [Sem.run_bind, run_underlying hd]
  rw [hts] at this
  rw [← this]
  cases d <;> rfl
theorem run_sizeOf {t : Nat} {i : TypeInfo} (h : P.info? t = some i) (w : World) : (sizeOf t).run P w = .ok i.size w := by
  simp [sizeOf, typeInfo, h]

theorem vload_run {t : Nat} {p : Addr} {h : Heap} {F : Value → Prop} (hv : vload P t p h F) : ∃ v, F v ∧ ∀ w : World, w.heap = h → (loadVar t p).run P w = .ok v w := by
  unfold vload at hv
  split at hv <;> try exact hv.elim
  rename_i r hr
  split at hv <;> try exact hv.elim
  rename_i hk
  split at hv
  · rename_i hagg
    obtain ⟨cs, hl, hrow, hF⟩ := hv
    refine ⟨_, hF, fun w hw => ?_⟩
    subst hw
    obtain ⟨i, hi, _, hsz, _⟩ := tr_ok hr
    have hc := run_loadCells_list (P := P) w p cs (fun j v hv => hrow j v hv)
    rw [hl, ← hsz] at hc
    simp [loadVar, run_isAgg hr hk, hagg, run_sizeOf hi, hc]
  · rename_i hagg
    obtain ⟨v, hc, hF⟩ := hv
    refine ⟨v, hF, fun w hw => ?_⟩
    subst hw
    have hc' : w.cell? p = some v := hc
    simp [loadVar, run_isAgg hr hk, hagg, hc']

/-! ### pure operations -/
def bitsOf (op : BinOp) (k : IntKind) (x y : Int) : Int :=
  let a := BitVec.ofInt k.bits x
  let b := BitVec.ofInt k.bits y
  match op with
  | .and => k.wrap (a &&& b).toNat
  | .or => k.wrap (a ||| b).toNat
  | .xor => k.wrap (a ^^^ b).toNat
  | _ => k.wrap (a &&& ~~~b).toNat

def vint (op : BinOp) (k : IntKind) (m n : Int) (F : Value → Prop) : Prop :=
  match op with
  | .add => ∃ r, k.wrap (m + n) = r ∧ F (.int k r)
  | .sub => ∃ r, k.wrap (m - n) = r ∧ F (.int k r)
  | .mul => ∃ r, k.wrap (m * n) = r ∧ F (.int k r)
  | .quo => n ≠ 0 ∧ ∃ r, k.wrap (m.tdiv n) = r ∧ F (.int k r)
  | .rem => n ≠ 0 ∧ ∃ r, m.tmod n = r ∧ F (.int k r)
  | .and => ∃ r, bitsOf .and k m n = r ∧ F (.int k r)
  | .or => ∃ r, bitsOf .or k m n = r ∧ F (.int k r)
  | .xor => ∃ r, bitsOf .xor k m n = r ∧ F (.int k r)
  | .andNot => ∃ r, bitsOf .andNot k m n = r ∧ F (.int k r)
  | .shl => 0 ≤ n ∧ ∃ r, k.wrap (m * 2 ^ (min n.toNat k.bits)) = r ∧ F (.int k r)
  | .shr => 0 ≤ n ∧ ∃ r, m.fdiv (2 ^ (min n.toNat k.bits)) = r ∧ F (.int k r)
  | .eql => (m = n → F (.bool true)) ∧ (m ≠ n → F (.bool false))
  | .neq => (m ≠ n → F (.bool true)) ∧ (m = n → F (.bool false))
  | .lss => (m < n → F (.bool true)) ∧ (n ≤ m → F (.bool false))
  | .leq => (m ≤ n → F (.bool true)) ∧ (n < m → F (.bool false))
  | .gtr => (n < m → F (.bool true)) ∧ (m ≤ n → F (.bool false))
  | .geq => (n ≤ m → F (.bool true)) ∧ (m < n → F (.bool false))

def vstr (op : BinOp) (a b : ByteArray) (F : Value → Prop) : Prop :=
  match op with
  | .add => a.size + b.size ≤ 9223372036854775807 ∧ F (.string (a ++ b))
  | .eql => (a = b → F (.bool true)) ∧ (a ≠ b → F (.bool false))
  | .neq => (a ≠ b → F (.bool true)) ∧ (a = b → F (.bool false))
  | .lss => (Op.bytesLess a.toList b.toList = true → F (.bool true)) ∧ (Op.bytesLess a.toList b.toList = false → F (.bool false))
  | _ => False

theorem beq_toList (a b : ByteArray) : (a.toList == b.toList) = decide (a = b) := by
  rw [Bool.eq_iff_iff]
  simp only [beq_iff_eq, decide_eq_true_eq, Lib.toList_data]
  constructor
  · intro h
    cases a; cases b
    congr 1
    exact Array.toList_inj.1 h
  · rintro rfl; rfl

theorem vint_run {op : BinOp} {k : IntKind} {m n : Int} {F : Value → Prop} (t : TypeId) (h : vint op k m n F) : ∃ v, F v ∧ ∀ w, (binOp op t (.int k m) (.int k n)).run P w = .ok v w := by
  cases op <;> simp only [vint] at h
  case add => obtain ⟨r, rfl, hF⟩ := h; exact ⟨_, hF, fun w => by simp [binOp, Op.intArith]⟩
  case sub => obtain ⟨r, rfl, hF⟩ := h; exact ⟨_, hF, fun w => by simp [binOp, Op.intArith]⟩
  case mul => obtain ⟨r, rfl, hF⟩ := h; exact ⟨_, hF, fun w => by simp [binOp, Op.intArith]⟩
  case quo => obtain ⟨h0, r, rfl, hF⟩ := h; exact ⟨_, hF, fun w => by simp [binOp, Op.intDiv, h0]⟩
  case rem => obtain ⟨h0, r, rfl, hF⟩ := h; exact ⟨_, hF, fun w => by simp [binOp, Op.intDiv, h0]⟩
  case and => obtain ⟨r, rfl, hF⟩ := h; exact ⟨_, hF, fun w => by simp [binOp, Op.intBits, bitsOf]⟩
  case or => obtain ⟨r, rfl, hF⟩ := h; exact ⟨_, hF, fun w => by simp [binOp, Op.intBits, bitsOf]⟩
  case xor => obtain ⟨r, rfl, hF⟩ := h; exact ⟨_, hF, fun w => by simp [binOp, Op.intBits, bitsOf]⟩
  case andNot => obtain ⟨r, rfl, hF⟩ := h; exact ⟨_, hF, fun w => by simp [binOp, Op.intBits, bitsOf]⟩
  case shl => obtain ⟨h0, r, rfl, hF⟩ := h; exact ⟨_, hF, fun w => by simp [binOp, Op.shift, Int.not_lt.2 h0]⟩
  case shr => obtain ⟨h0, r, rfl, hF⟩ := h; exact ⟨_, hF, fun w => by simp [binOp, Op.shift, Int.not_lt.2 h0]⟩
  case eql =>
    by_cases e : m = n
    · exact ⟨_, h.1 e, fun w => by simp [binOp, Op.intCmp, e]⟩
    · exact ⟨_, h.2 e, fun w => by simp [binOp, Op.intCmp, e]⟩
  case neq =>
    by_cases e : m = n
    · exact ⟨_, h.2 e, fun w => by simp [binOp, Op.intCmp, e]⟩
    · exact ⟨_, h.1 e, fun w => by simp [binOp, Op.intCmp, e]⟩
  case lss =>
    by_cases e : m < n
    · exact ⟨_, h.1 e, fun w => by simp [binOp, Op.intCmp, e]⟩
    · exact ⟨_, h.2 (by omega), fun w => by simp [binOp, Op.intCmp]; omega⟩
  case leq =>
    by_cases e : m ≤ n
    · exact ⟨_, h.1 e, fun w => by simp [binOp, Op.intCmp, e]⟩
    · exact ⟨_, h.2 (by omega), fun w => by simp [binOp, Op.intCmp]; omega⟩
  case gtr =>
    by_cases e : n < m
    · exact ⟨_, h.1 e, fun w => by simp [binOp, Op.intCmp, e]⟩
    · exact ⟨_, h.2 (by omega), fun w => by simp [binOp, Op.intCmp]; omega⟩
  case geq =>
    by_cases e : n ≤ m
    · exact ⟨_, h.1 e, fun w => by simp [binOp, Op.intCmp, e]⟩
    · exact ⟨_, h.2 (by omega), fun w => by simp [binOp, Op.intCmp]; omega⟩

/-- A shift, its two sides of unlike kinds. -/
theorem vshift_run {op : BinOp} {k k' : IntKind} {m n : Int} {F : Value → Prop} (t : TypeId) (ho : op = .shl ∨ op = .shr) (h : vint op k m n F) :
    ∃ v, F v ∧ ∀ w, (binOp op t (.int k m) (.int k' n)).run P w = .ok v w := by
  rcases ho with rfl | rfl <;> simp only [vint] at h
  · obtain ⟨h0, r, rfl, hF⟩ := h; exact ⟨_, hF, fun w => by simp [binOp, Op.shift, Int.not_lt.2 h0]⟩
  · obtain ⟨h0, r, rfl, hF⟩ := h; exact ⟨_, hF, fun w => by simp [binOp, Op.shift, Int.not_lt.2 h0]⟩

theorem vstr_run {op : BinOp} {a b : ByteArray} {F : Value → Prop} (t : TypeId) (h : vstr op a b F) : ∃ v, F v ∧ ∀ w, (binOp op t (.string a) (.string b)).run P w = .ok v w := by
  cases op <;> simp only [vstr] at h <;> try exact h.elim
  case add =>
    refine ⟨_, h.2, fun w => ?_⟩
    have : ¬ ((a.size + b.size : Nat) : Int) > IntKind.i64.max := by rw [IntKind.max_i64]; have := h.1; omega
    simp only [binOp, Op.stringOp]
    rw [if_neg this]; rfl
  case eql =>
    by_cases e : a = b
    · exact ⟨_, h.1 e, fun w => by simp [binOp, Op.stringOp, e]⟩
    · exact ⟨_, h.2 e, fun w => by simp only [binOp, Op.stringOp, beq_toList]; simp [e]⟩
  case neq =>
    by_cases e : a = b
    · exact ⟨_, h.2 e, fun w => by simp [binOp, Op.stringOp, e]⟩
    · exact ⟨_, h.1 e, fun w => by simp only [binOp, Op.stringOp, beq_toList]; simp [e]⟩
  case lss =>
    cases e : Op.bytesLess a.toList b.toList with
    | true => exact ⟨_, h.1 e, fun w => by simp [binOp, Op.stringOp, e]⟩
    | false => exact ⟨_, h.2 e, fun w => by simp [binOp, Op.stringOp, e]⟩

/-- Whatever else is held against whatever: its run is told. -/
inductive veqAny (P : Program) (op : BinOp) (t : TypeId) (xo yo : Operand) (x y : Value) (F : Value → Prop) : Prop where
  | mk (v : Value) (run : ∀ w, (do eqGuard op t xo yo x y; binOp op t x y : Sem Value).run P w = .ok v w) (post : F v)

def vfield (P : Program) [Tab P] (ft : Nat) (cs : Array Value) (off : Nat) (F : Value → Prop) : Prop :=
  match tr P ft with
  | some r => match r.ts.known with
    | true => match r.ts.agg with
      | true => F (.agg (cs.extract off (off + r.size)))
      | false => match cs[off]? with
        | some v => F v
        | none => False
    | false => False
  | none => False
theorem vfield_run {ft : Nat} {cs : Array Value} {off : Nat} {F : Value → Prop} (h : vfield P ft cs off F) : ∃ v, F v ∧ ∀ w, (part ft cs off).run P w = .ok v w := by
  unfold vfield at h
  split at h <;> try exact h.elim
  rename_i r hr
  split at h <;> try exact h.elim
  rename_i hk
  obtain ⟨i, hi, _, hsz, _⟩ := tr_ok hr
  split at h
  · rename_i ha
    exact ⟨_, h, fun w => by simp [part, run_isAgg hr hk, ha, run_sizeOf hi, hsz]⟩
  · rename_i ha
    split at h <;> try exact h.elim
    rename_i v hv
    exact ⟨v, h, fun w => by simp [part, run_isAgg hr hk, ha, hv]⟩

def optN (e : Env) (x : Option Operand) (d l : Nat) : Prop := match x with
  | none => d = l
  | some o => match ev e o with
    | some (.int _ n) => n = (l : Int)
    | _ => False

def vconv (P : Program) [Tab P] (src dst : TypeId) (x : Value) (F : Value → Prop) : Prop :=
  match x with
  | .int _ n => match tr P src with
    | some rs => match rs.ts with
      | .int _ => match tr P dst with
        | some r => match r.ts with
          | .int k => ∃ m, k.wrap n = m ∧ F (.int k m)
          | _ => False
        | none => False
      | _ => False
    | none => False
  | .string s => match tr P src with
    | some rs => match rs.ts with
      | .str => match tr P dst with
        | some r => match r.ts with
          | .str => F (.string s)
          | _ => False
        | none => False
      | _ => False
    | none => False
  | _ => False

def vpure (P : Program) [Tab P] (o : Oper) (e : Env) (F : Value → Prop) : Prop :=
  match o.op with
  | .move x => match ev e x with
    | some v => F v
    | none => False
  | .assign x => match ev e x with
    | some v => F v
    | none => False
  | .pick c a b => match ev e c with
    | some (.bool true) => match ev e a with
      | some v => F v
      | none => False
    | some (.bool false) => match ev e b with
      | some v => F v
      | none => False
    | _ => False
  | .binOp op t x y _ => match ev e x with
    | some (.int k m) => match ev e y with
      | some (.int k' n) => match op with
        | .shl => vint .shl k m n F
        | .shr => vint .shr k m n F
        | op => k = k' ∧ vint op k m n F
      | _ => False
    | some (.string a) => match ev e y with
      | some (.string b) => vstr op a b F
      | _ => False
    | some u => match ev e y with
      | some v => veqAny P op t x y u v F
      | none => False
    | none => False
  | .unOp op _ x => match op with
    | .not => match ev e x with
      | some (.bool b) => F (.bool (!b))
      | _ => False
    | .neg => match ev e x with
      | some (.int k n) => ∃ r, k.wrap (0 - n) = r ∧ F (.int k r)
      | _ => False
    | .xor => match ev e x with
      | some (.int k n) => ∃ r, bitsOf .xor k (if k.signed then -1 else k.max) n = r ∧ F (.int k r)
      | _ => False
    | _ => False
  | .nilCheck x => match ev e x with
    | some (.pointer (some p)) => F (.pointer (some p))
    | some (.func (.func f) a c) => F (.func (.func f) a c)
    | some (.func (.via t q f b) a c) => F (.func (.via t q f b) a c)
    | _ => False
  | .fieldAddr s x i => match ev e x with
    | some (.pointer (some p)) => match tr P s with
      | some r => match r.ts with
        | .strct fs => match fs[i]? with
          | some (off, _, sz) => sz ≠ 0 ∧ F (.pointer (some (p.add off)))
          | none => False
        | _ => False
      | none => False
    | _ => False
  | .field s x i => match ev e x with
    | some (.agg cs) => match tr P s with
      | some r => match r.ts with
        | .strct fs => match fs[i]? with
          | some (off, ft, _) => vfield P ft cs off F
          | none => False
        | _ => False
      | none => False
    | _ => False
  | .indexAddr t x i => match ev e x with
    | some (.slice b len cap) => match ev e i with
      | some (.int _ n) => match tr P t with
        | some r => match r.ts with
          | .slice _ es => ∃ (p : Addr) (k : Nat), b = some p ∧ n = (k : Int) ∧ k < len ∧ F (.pointer (some (p.add (k * es))))
          | _ => False
        | none => False
      | _ => False
    | some (.pointer (some p)) => match ev e i with
      | some (.int _ n) => match tr P t with
        | some r => match r.ts with
          | .arr len _ es => ∃ k : Nat, n = (k : Int) ∧ k < len ∧ F (.pointer (some (p.add (k * es))))
          | _ => False
        | none => False
      | _ => False
    | _ => False
  | .index t x i => match ev e x with
    | some (.string s) => match ev e i with
      | some (.int _ n) => match tr P t with
        | some r => match r.ts with
          | .str => ∃ (k : Nat) (c : UInt8), n = (k : Int) ∧ s.data[k]? = some c ∧ F (.int .u8 c.toNat)
          | _ => False
        | none => False
      | _ => False
    | some (.agg cs) => match ev e i with
      | some (.int _ n) => match tr P t with
        | some r => match r.ts with
          | .arr len el es => ∃ k : Nat, n = (k : Int) ∧ k < len ∧ vfield P el cs (k * es) F
          | _ => False
        | none => False
      | _ => False
    | _ => False
  | .slice t x lo hi mx => match ev e x with
    | some (.slice b len cap) => match tr P t with
      | some r => match r.ts with
        | .slice _ es => ∃ l h m : Nat, optN e lo 0 l ∧ optN e hi len h ∧ optN e mx cap m ∧ (mx.isSome = true → hi.isSome = true) ∧ l ≤ h ∧ h ≤ m ∧ m ≤ cap ∧
            ∃ A k c', (if m = l then b else b.map (·.add (l * es))) = A ∧ h - l = k ∧ m - l = c' ∧ F (.slice A k c')
        | _ => False
      | none => False
    | some (.string s) => match tr P t with
      | some r => match r.ts with
        | .str => mx = none ∧ ∃ l h : Nat, optN e lo 0 l ∧ optN e hi s.size h ∧ l ≤ h ∧ h ≤ s.size ∧ ∃ s', s.extract l h = s' ∧ F (.string s')
        | _ => False
      | none => False
    | _ => False
  | .extract x i => match ev e x with
    | some (.tuple vs) => match vs[i]? with
      | some v => F v
      | none => False
    | _ => False
  | .makeInterface t x => match ev e x with
    | some v => match tr P t with
      | some r => match r.ts.isIface with
        | false => F (.iface t v)
        | true => False
      | none => False
    | none => False
  | .makeFunc fn first captured => match evs e first.toList with
    | some a => match evs e captured.toList with
      | some c => F (.func fn a.toArray c.toArray)
      | none => False
    | none => False
  | .typeAssert x _ asserted ok => match ev e x with
    | some (.iface t v) => match tr P asserted with
      | some r => match r.ts.isIface with
        | false => t = asserted ∧ F (bif ok then .tuple #[v, .bool true] else v)
        | true => False
      | none => False
    | _ => False
  | .convert src dst x => match ev e x with
    | some v => vconv P src dst v F
    | none => False
  | .build t parts => match evs e (parts.toList.map (·.2)) with
    | some vs => ∃ v, (∀ w, (Instr.build t ((parts.toList.map (·.1)).zip vs).toArray).run P w = .ok v w) ∧ F v
    | none => False
  | .call c => match c.callee with
    | .builtin .len => match evs e c.args.toList with
      | some [.slice _ n _] => match c.argTypes.toList with
        | [t] => match tr P t with
          | some r => match r.ts with
            | .slice _ _ => F (.int .i64 n)
            | _ => False
          | none => False
        | _ => False
      | some [.string s] => match c.argTypes.toList with
        | [t] => match tr P t with
          | some r => match r.ts with
            | .str => F (.int .i64 s.size)
            | _ => False
          | none => False
        | _ => False
      | _ => False
    | .builtin .min => match evs e c.args.toList with
      | some [.int k m, .int _ n] => ∃ r, min m n = r ∧ F (.int k r)
      | _ => False
    | .builtin .max => match evs e c.args.toList with
      | some [.int k m, .int _ n] => ∃ r, max m n = r ∧ F (.int k r)
      | _ => False
    | _ => False
  | _ => False
end
end Go.V
