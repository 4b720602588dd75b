/- Structs held against one another, field by field. -/
import Derived.Test.YtobjkcmiicflmaaW2
import Derived.Laws.StructEq
set_option linter.unusedVariables false
set_option linter.unusedSimpArgs false
set_option linter.unusedSectionVars false
namespace Go.V
open Go

section
variable {P : Program} [Tab P]

def eqOk (P : Program) (t : Nat) : Bool := match P.underlying t with
  | some (.struct fs) => !P.stoodInHeld t && fs.toList.all fun f => f.name != "_"
  | _ => false
def eqOkAll (P : Program) [Tab P] : Nat → Nat → Bool
  | 0, _ => false
  | k + 1, t => match tr P t with
    | some r => match r.ts with
      | .strct fs => eqOk P t && fs.all fun f => eqOkAll P k f.2.1
      | .int _ => true
      | .bool => true
      | .str => true
      | _ => false
    | none => false

def partV (P : Program) [Tab P] (ft : Nat) (cs : Array Value) (off : Nat) : Option Value := match tr P ft with
  | some r => match r.ts.known with
    | true => match r.ts.agg with
      | true => some (.agg (cs.extract off (off + r.size)))
      | false => cs[off]?
    | false => none
  | none => none
theorem partV_run {ft : Nat} {cs : Array Value} {off : Nat} {v : Value} (h : partV P ft cs off = some v) (w : World) : (part ft cs off).run P w = .ok v w := by
  have hf : vfield P ft cs off fun u => u = v := by
    unfold partV at h
    unfold vfield
    split at h <;> try cases h
    rename_i r hr
    split at h <;> try cases h
    rename_i hk
    simp only [hr, hk]
    split at h
    · rename_i ha
      simp only [ha]
      injection h with h
    · rename_i ha
      simp only [ha, h]
  obtain ⟨u, rfl, hu⟩ := vfield_run hf
  exact hu w

/-- Leaf by leaf, in the fields' order; the first two that are unlike decide. -/
def eqFs (eq : Nat → Value → Value → Option Bool) (P : Program) [Tab P] (xs ys : Array Value) : List (Nat × Nat × Nat) → Option Bool
  | [] => some true
  | (off, ft, _) :: r => match partV P ft xs off with
    | some a => match partV P ft ys off with
      | some b => match eq ft a b with
        | some true => eqFs eq P xs ys r
        | some false => some false
        | none => none
      | none => none
    | none => none
def eqV (P : Program) [Tab P] : Nat → Nat → Value → Value → Option Bool
  | 0, _, _, _ => none
  | k + 1, t, x, y => match tr P t with
    | some r => match r.ts with
      | .strct fs => match x with
        | .agg xs => match y with
          | .agg ys => eqFs (eqV P k) P xs ys fs
          | _ => none
        | _ => none
      | .int _ => match x with
        | .int k1 a => match y with
          | .int k2 b => if k1 = k2 then some (a == b) else none
          | _ => none
        | _ => none
      | .bool => match x with
        | .bool a => match y with
          | .bool b => some (a == b)
          | _ => none
        | _ => none
      | .str => match x with
        | .string a => match y with
          | .string b => some (decide (a = b))
          | _ => none
        | _ => none
      | _ => none
    | none => none

theorem eqV_run : ∀ (k : Nat) (t : Nat) (x y : Value) (b : Bool) (d : Nat), k ≤ d → eqOkAll P k t = true → eqV P k t x y = some b → ∀ w : World, (Op.equalIn d t x y).run P w = .ok b w
  | 0, _, _, _, _, _, _, h, _, _ => by cases h
  | k + 1, t, x, y, b, d, hd, ho, hv, w => by
    obtain ⟨d, rfl⟩ : ∃ d', d = d' + 1 := ⟨d - 1, by omega⟩
    simp only [eqOkAll] at ho
    simp only [eqV] at hv
    cases htr : tr P t with
    | none => rw [htr] at hv; cases hv
    | some r =>
      rw [htr] at ho hv
      obtain ⟨i, hi, hts, _, _⟩ := tr_ok htr
      cases hr : r.ts with
      | strct fs =>
        simp only [hr] at ho hv
        rw [Bool.and_eq_true] at ho
        cases x <;> simp only at hv <;> try cases hv
        rename_i xs
        cases y <;> simp only at hv <;> try cases hv
        rename_i ys
        obtain ⟨f, hu, hall, hfs⟩ := und_strct (hts.trans hr)
        have hfo : P.fieldsOf t = f := by unfold Program.fieldsOf; rw [hu]
        have hok := ho.1
        unfold eqOk at hok
        rw [hu] at hok
        simp only [Bool.and_eq_true, Bool.not_eq_true', List.all_eq_true, bne_iff_ne] at hok
        rw [run_equalIn_struct w d t xs ys (by rw [hfo]; exact hu) hok.1, hfo]
        have key : ∀ (l : List Field) (fs : List (Nat × Nat × Nat)), l.map (fun x => (x.offset, x.type, szOf P x.type)) = fs → (∀ f ∈ l, f.name ≠ "_") → (∀ f ∈ fs, eqOkAll P k f.2.1 = true) → eqFs (eqV P k) P xs ys fs = some b → (Op.eqFields d xs ys l).run P w = .ok b w := by
          intro l
          induction l with
          | nil => intro fs e _ _ hv; subst e; simp only [List.map_nil, eqFs, Option.some.injEq] at hv; subst hv; simp [Op.eqFields]
          | cons f l ih =>
            intro fs e hn ha hv
            subst e
            simp only [List.map_cons, eqFs] at hv
            have hne := hn f (List.mem_cons_self ..)
            cases hp1 : partV P f.type xs f.offset with
            | none => rw [hp1] at hv; cases hv
            | some a =>
              rw [hp1] at hv
              simp only at hv
              cases hp2 : partV P f.type ys f.offset with
              | none => rw [hp2] at hv; cases hv
              | some c =>
                rw [hp2] at hv
                simp only at hv
                cases he : eqV P k f.type a c with
                | none => rw [he] at hv; cases hv
                | some r =>
                  rw [he] at hv
                  have hrun := eqV_run k f.type a c r d (by omega) (ha (f.offset, f.type, szOf P f.type) (by simp only [List.map_cons]; exact List.mem_cons_self ..)) he w
                  simp only [Op.eqFields]
                  rw [if_pos hne]
                  simp only [Sem.run_bind, partV_run hp1, partV_run hp2, Result.andThen_ok, hrun]
                  cases r with
                  | true =>
                    simp only at hv
                    simp only [Bool.not_true, Bool.false_eq_true, if_false]
                    exact ih _ rfl (fun f hf => hn f (List.mem_cons_of_mem _ hf)) (fun f hf => ha f (by simp only [List.map_cons]; exact List.mem_cons_of_mem _ hf)) hv
                  | false =>
                    simp only at hv
                    injection hv with hv
                    subst hv
                    simp
        exact key f.toList fs hfs hok.2 (fun f hf => List.all_eq_true.1 ho.2 f hf) hv
      | int kk =>
        simp only [hr] at hv
        cases x <;> simp only at hv <;> try cases hv
        cases y <;> simp only at hv <;> try cases hv
        split at hv
        · rename_i e; subst e; injection hv with hv; subst hv; exact run_equalIn_int w d t _ kk _ _ (und_int (hts.trans hr))
        · cases hv
      | bool =>
        simp only [hr] at hv
        cases x <;> simp only at hv <;> try cases hv
        cases y <;> simp only at hv <;> try cases hv
        exact run_equalIn_bool w d t _ _ (und_bool (hts.trans hr))
      | str =>
        simp only [hr] at hv
        cases x <;> simp only at hv <;> try cases hv
        cases y <;> simp only at hv <;> try cases hv
        rw [← beq_toList]
        exact run_equalIn_string w d t _ _ (und_str (hts.trans hr))
      | _ => simp only [hr] at hv; cases hv

theorem eql_agg {t : Nat} {xs ys : Array Value} {xo yo : Operand} {b : Bool} {F : Value → Prop} (hk : eqOkAll P 10 t = true) (hg : P.eqGuardType P.depth t = false) (hv : eqV P 10 t (.agg xs) (.agg ys) = some b) (hF : F (.bool b)) :
    veqAny P .eql t xo yo (.agg xs) (.agg ys) F := ⟨.bool b, fun w => by
  have h1 := eqV_run 10 t _ _ b 10000 (by omega) hk hv w
  simp only [Sem.run_bind, run_eqGuard_agg w .eql t xo yo _ _ hg, Result.andThen_ok, run_eql_struct, h1], hF⟩
theorem neq_agg {t : Nat} {xs ys : Array Value} {xo yo : Operand} {b : Bool} {F : Value → Prop} (hk : eqOkAll P 10 t = true) (hg : P.eqGuardType P.depth t = false) (hv : eqV P 10 t (.agg xs) (.agg ys) = some b) (hF : F (.bool (!b))) :
    veqAny P .neq t xo yo (.agg xs) (.agg ys) F := ⟨.bool (!b), fun w => by
  have h1 := eqV_run 10 t _ _ b 10000 (by omega) hk hv w
  simp only [Sem.run_bind, run_eqGuard_agg w .neq t xo yo _ _ hg, Result.andThen_ok, run_neq_struct, h1], hF⟩
end
end Go.V
