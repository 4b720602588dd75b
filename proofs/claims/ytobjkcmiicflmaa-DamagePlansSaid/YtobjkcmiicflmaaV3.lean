/- The law behind V2: what is reckoned ahead of a list of operations is enough for the machine's run of them, in whatever order the text leaves open; statements, loops, calls. -/
import Derived.Test.YtobjkcmiicflmaaV2
set_option linter.unusedVariables false
set_option linter.unusedSimpArgs false
set_option linter.unusedSectionVars false
namespace Go.V
open Go

section
variable {P : Program} [Tab P]

theorem run_fieldPlace {p : Addr} {f : Field} {i : TypeInfo} (h : P.info? f.type = some i) (hs : i.size ≠ 0) (w : World) : (fieldPlace p f).run P w = .ok (p.add f.offset) w := by
  simp [fieldPlace, run_sizeOf h, hs]
theorem strct_at {t : Nat} {fs : List (Nat × Nat × Nat)} (h : tsOf P t = .strct fs) {k off ft sz : Nat} (hk : fs[k]? = some (off, ft, sz)) :
    ∃ f g i, P.underlying t = some (.struct f) ∧ f[k]? = some g ∧ g.offset = off ∧ g.type = ft ∧ P.info? g.type = some i ∧ i.size = sz := by
  obtain ⟨f, hu, hall, rfl⟩ := und_strct h
  rw [List.getElem?_map] at hk
  cases hg : f.toList[k]? with
  | none => rw [hg] at hk; cases hk
  | some g =>
    rw [hg] at hk
    simp only [Option.map_some, Option.some.injEq, Prod.mk.injEq] at hk
    obtain ⟨h1, h2, h3⟩ := hk
    obtain ⟨i, hi⟩ := Option.isSome_iff_exists.1 (hall g (List.mem_of_getElem? hg))
    exact ⟨f, g, i, hu, by simpa using hg, h1, h2, hi, by rw [← h3]; simp [szOf, hi]⟩

theorem optN_bound {n : Nat} {e : Env} {a : Act} (hr : Rep n e a) {x : Option Operand} {d l y : Nat} {code : BoundsCode} (h : optN e x d l) (hy : l ≤ y) (w : World) :
    (match x.map a.eval with | some v => Instr.sliceBound v y code | none => (pure d : Sem Nat)).run P w = .ok l w := by
  cases x with
  | none => simp only [optN] at h; subst h; rfl
  | some o =>
    simp only [optN] at h
    split at h <;> try exact h.elim
    rename_i k m hm
    subst h
    have e1 : a.eval o = .int k (l : Int) := hr.ev hm
    simp only [Option.map_some, e1, Instr.sliceBound, asIntOf, Sem.run_bind, Sem.run_pure, Result.andThen_ok]
    rw [if_pos ⟨by omega, by omega⟩]
    simp
theorem run_bounds {n : Nat} {e : Env} {a : Act} (hr : Rep n e a) {lo hi mx : Option Operand} {isS : Bool} {len cap l h m : Nat} (h1 : optN e lo 0 l) (h2 : optN e hi len h) (h3 : optN e mx cap m) (h4 : mx.isSome = true → hi.isSome = true)
    (hl : l ≤ h) (hh : h ≤ m) (hm : m ≤ cap) (w : World) : (Instr.sliceBounds isS len cap (lo.map a.eval) (hi.map a.eval) (mx.map a.eval)).run P w = .ok (l, h, m) w := by
  have e3 : ∀ c, (match mx.map a.eval with | some v => Instr.sliceBound v cap c | none => (pure cap : Sem Nat)).run P w = .ok m w := fun c => optN_bound hr h3 hm w
  have e2 : ∀ c, (match hi.map a.eval with | some v => Instr.sliceBound v m c | none => (pure len : Sem Nat)).run P w = .ok h w := fun c => optN_bound hr h2 hh w
  have e1 : ∀ c, (match lo.map a.eval with | some v => Instr.sliceBound v h c | none => (pure 0 : Sem Nat)).run P w = .ok l w := fun c => optN_bound hr h1 hl w
  unfold Instr.sliceBounds
  cases mx with
  | none =>
    simp only [Option.map_none] at e3 ⊢
    simp only [optN] at h3
    subst h3
    simp only [Sem.run_bind, Sem.run_pure, Result.andThen_ok, Option.isSome_none]
    cases hi with
    | none =>
      simp only [Option.map_none, optN] at h2 ⊢
      subst h2
      simp only [Sem.run_bind, Sem.run_pure, Result.andThen_ok]
      cases lo with
      | none => simp only [Option.map_none, optN] at h1 ⊢; subst h1; simp
      | some lo =>
        have := e1 .sliceB
        simp only [Option.map_some] at this ⊢
        simp [this]
    | some hi =>
      have := e2 (if isS then .sliceAcap else .sliceAlen)
      simp only [Option.map_some] at this ⊢
      simp only [Sem.run_bind, this, Result.andThen_ok]
      cases lo with
      | none => simp only [Option.map_none, optN] at h1 ⊢; subst h1; simp
      | some lo =>
        have := e1 .sliceB
        simp only [Option.map_some] at this ⊢
        simp [this]
  | some mx =>
    have := e3 (if isS then .slice3Acap else .slice3Alen)
    simp only [Option.map_some] at this ⊢
    simp only [Sem.run_bind, this, Result.andThen_ok]
    cases hi with
    | none => exact absurd (h4 rfl) (by simp)
    | some hi =>
      have := e2 .slice3B
      simp only [Option.map_some] at this ⊢
      simp only [Sem.run_bind, this, Result.andThen_ok]
      cases lo with
      | none => simp only [Option.map_none, optN] at h1 ⊢; subst h1; simp
      | some lo =>
        have := e1 .slice3C
        simp only [Option.map_some] at this ⊢
        simp [this]

theorem vconv_run {src dst : TypeId} {x : Value} {F : Value → Prop} (h : vconv P src dst x F) : ∃ v, F v ∧ ∀ w, (convert src dst x).run P w = .ok v w := by
  unfold vconv at h
  split at h <;> try exact h.elim
  · split at h <;> try exact h.elim
    rename_i rs hrs
    split at h <;> try exact h.elim
    rename_i ks hks
    split at h <;> try exact h.elim
    rename_i r hr
    split at h <;> try exact h.elim
    rename_i k hk
    obtain ⟨m, rfl, hF⟩ := h
    obtain ⟨_, _, hts, _, _⟩ := tr_ok hrs
    obtain ⟨_, _, htd, _, _⟩ := tr_ok hr
    have u1 := und_int (hts.trans hks)
    have u2 := und_int (htd.trans hk)
    exact ⟨_, hF, fun w => by simp [convert, run_underlying u1, run_underlying u2, Conv.intToInt]⟩
  · split at h <;> try exact h.elim
    rename_i rs hrs
    split at h <;> try exact h.elim
    rename_i hks
    split at h <;> try exact h.elim
    rename_i r hr
    split at h <;> try exact h.elim
    rename_i hk
    obtain ⟨_, _, hts, _, _⟩ := tr_ok hrs
    obtain ⟨_, _, htd, _, _⟩ := tr_ok hr
    have u1 := und_str (hts.trans hks)
    have u2 := und_str (htd.trans hk)
    exact ⟨_, h, fun w => by simp [convert, run_underlying u1, run_underlying u2]⟩

theorem iface_not {t : Nat} {r : TRow} (h : tr P t = some r) (hi : r.ts.isIface = false) : ∃ d, P.underlying t = some d ∧ (∀ m, d ≠ .interface m) := by
  obtain ⟨i, hinfo, hts, _, _⟩ := tr_ok h
  have hne : tsOf P t ≠ .other := by rw [hts]; rintro he; rw [he] at hi; cases hi
  obtain ⟨d, hd, hdd⟩ := tsD_some rfl hne
  refine ⟨d, hd, fun m he => ?_⟩
  subst he
  rw [← hts, ← hdd] at hi
  cases hi

theorem vpure_run {n : Nat} {o : Oper} {e : Env} {a : Act} {F : Value → Prop} (hr : Rep n e a) (h : vpure P o e F) : ∃ v, (∀ w, (execOp a.eval o).run P w = .ok (.value v) w) ∧ F v := by
  obtain ⟨dst, op, type, pos, after, guard⟩ := o
  have done : ∀ {v : Value}, F v → (∀ w, (execOp a.eval ⟨dst, op, type, pos, after, guard⟩).run P w = .ok (.value v) w) → ∃ v, (∀ w, (execOp a.eval ⟨dst, op, type, pos, after, guard⟩).run P w = .ok (.value v) w) ∧ F v := fun hF hw => ⟨_, hw, hF⟩
  cases op <;> simp only [vpure] at h <;> try exact h.elim
  case move x =>
    split at h <;> try exact h.elim
    rename_i v hx
    exact done h fun w => by simp [execOp, hr.ev hx]
  case assign x =>
    split at h <;> try exact h.elim
    rename_i v hx
    exact done h fun w => by simp [execOp, hr.ev hx]
  case pick c x y =>
    split at h <;> try exact h.elim
    · rename_i hc
      split at h <;> try exact h.elim
      rename_i v hx
      exact done h fun w => by simp [execOp, hr.ev hc, hr.ev hx, asBool]
    · rename_i hc
      split at h <;> try exact h.elim
      rename_i v hx
      exact done h fun w => by simp [execOp, hr.ev hc, hr.ev hx, asBool]
  case build t parts =>
    split at h <;> try exact h.elim
    rename_i vs hvs
    obtain ⟨v, hv, hF⟩ := h
    have e1 := hr.evs hvs
    have e2 : (parts.map fun (x : Nat × Operand) => (x.1, a.eval x.2)) = ((parts.toList.map (·.1)).zip vs).toArray := by
      rw [← e1]
      apply Array.ext'
      simp only [Array.toList_map]
      induction parts.toList with
      | nil => rfl
      | cons p l ih => simp [ih]
    exact done hF fun w => by
      have := hv w
      rw [← e2] at this
      simp [execOp, this]
  case nilCheck x =>
    split at h <;> try exact h.elim
    · rename_i p hx
      exact done h fun w => by simp [execOp, hr.ev hx]
    · rename_i f a' c hx
      exact done h fun w => by simp [execOp, hr.ev hx]
    · rename_i f a' c hx
      exact done h fun w => by simp [execOp, hr.ev hx]
  case binOp op t x y u =>
    have gen : ∀ {v1 v2 v : Value}, ev e x = some v1 → ev e y = some v2 → (∀ w, (eqGuard op t x y v1 v2).run P w = .ok () w) → (∀ w, (binOp op t v1 v2).run P w = .ok v w) → F v →
        ∃ v, (∀ w, (execOp a.eval ⟨dst, .binOp op t x y u, type, pos, after, guard⟩).run P w = .ok (.value v) w) ∧ F v := fun hx hy hg hb hF => done hF fun w => by simp [execOp, hr.ev hx, hr.ev hy, hg, hb]
    have gi : ∀ (k : IntKind) (m : Int) (v2 : Value) (w : World), (eqGuard op t x y (.int k m) v2).run P w = .ok () w := fun k m v2 w => by rw [eqGuard_at_int]; rfl
    have gs : ∀ (s : ByteArray) (v2 : Value) (w : World), (eqGuard op t x y (.string s) v2).run P w = .ok () w := fun s v2 w => by rw [eqGuard_at_string]; rfl
    split at h <;> try exact h.elim
    · rename_i k m hx
      split at h <;> try exact h.elim
      rename_i k' n' hy
      split at h
      · obtain ⟨v, hF, hb⟩ := vshift_run (P := P) t (.inl rfl) h; exact gen hx hy (gi _ _ _) hb hF
      · obtain ⟨v, hF, hb⟩ := vshift_run (P := P) t (.inr rfl) h; exact gen hx hy (gi _ _ _) hb hF
      · obtain ⟨rfl, h⟩ := h
        obtain ⟨v, hF, hb⟩ := vint_run (P := P) t h
        exact gen hx hy (gi _ _ _) hb hF
    · rename_i s hx
      split at h <;> try exact h.elim
      rename_i s' hy
      obtain ⟨v, hF, hb⟩ := vstr_run (P := P) t h
      exact gen hx hy (gs _ _) hb hF
    · rename_i v1 _ _ hx
      split at h <;> try exact h.elim
      rename_i v2 hy
      obtain ⟨v, hv, hF⟩ := h
      exact done hF fun w => by
        have := hv w
        simp only [execOp, hr.ev hx, hr.ev hy, Sem.run_bind, this]
        rfl
  case unOp op t x =>
    cases op <;> simp only at h <;> try exact h.elim
    case neg =>
      split at h <;> try exact h.elim
      rename_i hx
      obtain ⟨r, rfl, hF⟩ := h
      exact done hF fun w => by simp [execOp, hr.ev hx, Op.unary, Op.intArith]
    case xor =>
      split at h <;> try exact h.elim
      rename_i hx
      obtain ⟨r, rfl, hF⟩ := h
      exact done hF fun w => by simp [execOp, hr.ev hx, Op.unary, Op.intBits, bitsOf]
    case not =>
      split at h <;> try exact h.elim
      rename_i hx
      exact done h fun w => by simp [execOp, hr.ev hx, Op.unary]
  case convert src dst' x =>
    split at h <;> try exact h.elim
    rename_i v hx
    obtain ⟨u, hF, hw⟩ := vconv_run h
    exact done hF fun w => by simp [execOp, hr.ev hx, hw]
  case makeInterface t x =>
    split at h <;> try exact h.elim
    rename_i v hx
    split at h <;> try exact h.elim
    rename_i r htr
    split at h <;> try exact h.elim
    rename_i hif
    obtain ⟨d, hd, hne⟩ := iface_not htr hif
    exact done h fun w => by
      simp only [execOp, hr.ev hx, Instr.makeInterface, Sem.run_bind, run_underlying hd, Result.andThen_ok]
      cases d <;> first | rfl | exact absurd rfl (hne _)
  case makeFunc fn first captured =>
    split at h <;> try exact h.elim
    rename_i v1 h1
    split at h <;> try exact h.elim
    rename_i v2 h2
    have e1 : first.map a.eval = v1.toArray := by rw [← hr.evs h1]; apply Array.ext'; simp
    have e2 : captured.map a.eval = v2.toArray := by rw [← hr.evs h2]; apply Array.ext'; simp
    exact done h fun w => by simp only [execOp, e1, e2, Instr.makeFunc]; rfl
  case typeAssert x xt asserted ok =>
    split at h <;> try exact h.elim
    rename_i t v hx
    split at h <;> try exact h.elim
    rename_i r htr
    split at h <;> try exact h.elim
    rename_i hif
    obtain ⟨rfl, hF⟩ := h
    obtain ⟨d, hd, hne⟩ := iface_not htr hif
    exact done hF fun w => by
      simp only [execOp, hr.ev hx, Instr.typeAssert, Sem.run_bind, run_underlying hd, Result.andThen_ok]
      cases d <;> first | exact absurd rfl (hne _) | (cases ok <;> simp)
  case extract x i =>
    split at h <;> try exact h.elim
    rename_i vs hx
    split at h <;> try exact h.elim
    rename_i v hv
    exact done h fun w => by simp [execOp, hr.ev hx, Instr.extract, hv]
  case field t x i =>
    split at h <;> try exact h.elim
    rename_i cs hx
    split at h <;> try exact h.elim
    rename_i r htr
    split at h <;> try exact h.elim
    rename_i fs hfs
    split at h <;> try exact h.elim
    rename_i off ft sz hk
    obtain ⟨_, _, hts, _, _⟩ := tr_ok htr
    obtain ⟨f, g, i', hu, hg, rfl, rfl, hi, _⟩ := strct_at (hts.trans hfs) hk
    obtain ⟨v, hF, hp⟩ := vfield_run h
    exact done hF fun w => by simp [execOp, hr.ev hx, Instr.field, run_underlying hu, hg, asAgg, hp]
  case fieldAddr t x i =>
    split at h <;> try exact h.elim
    rename_i p hx
    split at h <;> try exact h.elim
    rename_i r htr
    split at h <;> try exact h.elim
    rename_i fs hfs
    split at h <;> try exact h.elim
    rename_i off ft sz hk
    obtain ⟨_, _, hts, _, _⟩ := tr_ok htr
    obtain ⟨f, g, i', hu, hg, rfl, rfl, hi, rfl⟩ := strct_at (hts.trans hfs) hk
    exact done h.2 fun w => by simp [execOp, hr.ev hx, Instr.fieldAt, run_underlying hu, hg, Instr.sureAddr, run_fieldPlace hi h.1]
  case indexAddr t x ix =>
    split at h <;> try exact h.elim
    · rename_i b len cap hx
      split at h <;> try exact h.elim
      rename_i k' n' hy
      split at h <;> try exact h.elim
      rename_i r htr
      split at h <;> try exact h.elim
      rename_i el es hfs
      obtain ⟨p, k, rfl, rfl, hlt, hF⟩ := h
      obtain ⟨_, _, hts, _, _⟩ := tr_ok htr
      obtain ⟨hu, i, hi, rfl⟩ := und_slice (hts.trans hfs)
      exact done hF fun w => by
        simp only [execOp, hr.ev hx, hr.ev hy, Instr.indexAt, asIntOf, Sem.run_bind, Sem.run_pure, Result.andThen_ok, run_underlying hu]
        rw [if_pos ⟨by omega, by omega⟩]
        simp [run_sizeOf hi]
    · rename_i p hx
      split at h <;> try exact h.elim
      rename_i k' n' hy
      split at h <;> try exact h.elim
      rename_i r htr
      split at h <;> try exact h.elim
      rename_i len el es hfs
      obtain ⟨k, rfl, hlt, hF⟩ := h
      obtain ⟨_, _, hts, _, _⟩ := tr_ok htr
      obtain ⟨hu, i, hi, rfl⟩ := und_arr (hts.trans hfs)
      exact done hF fun w => by
        simp only [execOp, hr.ev hx, hr.ev hy, Instr.indexAt, asIntOf, Sem.run_bind, Sem.run_pure, Result.andThen_ok, run_underlying hu, Instr.sureAddr]
        rw [if_pos ⟨by omega, by omega⟩]
        simp [run_sizeOf hi]
  case index t x ix =>
    split at h <;> try exact h.elim
    · rename_i s hx
      split at h <;> try exact h.elim
      rename_i k' n' hy
      split at h <;> try exact h.elim
      rename_i r htr
      split at h <;> try exact h.elim
      rename_i hfs
      obtain ⟨k, c, rfl, hc, hF⟩ := h
      obtain ⟨_, _, hts, _, _⟩ := tr_ok htr
      have hu := und_str (hts.trans hfs)
      have hlt : k < s.size := by
        have := (Array.getElem?_eq_some_iff.1 hc).1
        exact this
      have hs : s[k]? = some c := by
        rw [getElem?_pos s k hlt]
        have := (Array.getElem?_eq_some_iff.1 hc).2
        exact congrArg some this
      exact done hF fun w => by
        simp only [execOp, hr.ev hx, hr.ev hy, Instr.index, asIntOf, Sem.run_bind, Sem.run_pure, Result.andThen_ok, run_underlying hu]
        rw [if_pos (by omega), Int.toNat_natCast, hs]
        rfl
    · rename_i cs hx
      split at h <;> try exact h.elim
      rename_i k' n' hy
      split at h <;> try exact h.elim
      rename_i r htr
      split at h <;> try exact h.elim
      rename_i len el es hfs
      obtain ⟨k, rfl, hlt, hF⟩ := h
      obtain ⟨_, _, hts, _, _⟩ := tr_ok htr
      obtain ⟨hu, i, hi, rfl⟩ := und_arr (hts.trans hfs)
      obtain ⟨v, hF, hp⟩ := vfield_run hF
      exact done hF fun w => by
        simp only [execOp, hr.ev hx, hr.ev hy, Instr.index, asIntOf, Sem.run_bind, Sem.run_pure, Result.andThen_ok, run_underlying hu]
        rw [if_pos ⟨by omega, by omega⟩]
        simp [run_sizeOf hi, hp]
  case slice t x lo hi mx =>
    split at h <;> try exact h.elim
    · rename_i b len cap hx
      split at h <;> try exact h.elim
      rename_i r htr
      split at h <;> try exact h.elim
      rename_i el es hfs
      obtain ⟨l, h', m, h1, h2, h3, h4, hl, hh, hm, _, _, _, rfl, rfl, rfl, hF⟩ := h
      obtain ⟨_, _, hts, _, _⟩ := tr_ok htr
      obtain ⟨hu, i, hi, hes⟩ := und_slice (hts.trans hfs)
      subst hes
      exact done hF fun w => by
        simp only [execOp, hr.ev hx, Instr.sliceAt, Instr.slice, Sem.run_bind, run_underlying hu, Result.andThen_ok, run_bounds hr h1 h2 h3 h4 hl hh hm, run_sizeOf hi, Sem.run_pure]
    · rename_i s hx
      split at h <;> try exact h.elim
      rename_i r htr
      split at h <;> try exact h.elim
      rename_i hfs
      obtain ⟨rfl, l, h', h1, h2, hl, hh, _, rfl, hF⟩ := h
      obtain ⟨_, _, hts, _, _⟩ := tr_ok htr
      have hu := und_str (hts.trans hfs)
      have hb := fun w => run_bounds (P := P) (isS := false) hr h1 h2 (mx := none) (cap := s.size) (m := s.size) rfl (by simp) hl hh (Nat.le_refl _) w
      exact done hF fun w => by
        have := hb w
        simp only [Option.map_none] at this
        simp [execOp, hr.ev hx, Instr.sliceAt, Instr.slice, run_underlying hu, this]
  case call c =>
    obtain ⟨callee, args, argTypes⟩ := c
    cases callee with
    | value f => exact h.elim
    | invoke f nm => exact h.elim
    | builtin b =>
      have ea : ∀ {vs : List Value}, evs e args.toList = some vs → args.map a.eval = vs.toArray := fun hvs => by rw [← hr.evs hvs]; apply Array.ext'; simp
      cases b <;> simp only at h <;> try exact h.elim
      case len =>
        split at h <;> try exact h.elim
        · rename_i b' n' c' hvs
          split at h <;> try exact h.elim
          rename_i t ht
          split at h <;> try exact h.elim
          rename_i r htr
          split at h <;> try exact h.elim
          rename_i el es hfs
          obtain ⟨_, _, hts, _, _⟩ := tr_ok htr
          obtain ⟨hu, _⟩ := und_slice (hts.trans hfs)
          have ht' : argTypes = #[t] := by apply Array.ext'; simpa using ht
          exact done h fun w => by
            simp [execOp, resolve, ea hvs, invoke, builtin, ht', Builtin.len_, run_underlying hu, goInt]
        · rename_i s hvs
          split at h <;> try exact h.elim
          rename_i t ht
          split at h <;> try exact h.elim
          rename_i r htr
          split at h <;> try exact h.elim
          rename_i hfs
          obtain ⟨_, _, hts, _, _⟩ := tr_ok htr
          have hu := und_str (hts.trans hfs)
          have ht' : argTypes = #[t] := by apply Array.ext'; simpa using ht
          exact done h fun w => by
            simp [execOp, resolve, ea hvs, invoke, builtin, ht', Builtin.len_, run_underlying hu, goInt]
      case max =>
        split at h <;> try exact h.elim
        rename_i k m k' n' hvs
        obtain ⟨r, rfl, hF⟩ := h
        exact done hF fun w => by
          simp only [execOp, resolve, ea hvs, invoke, builtin, Builtin.max_, Sem.run_bind, Sem.run_pure, Result.andThen_ok]
          simp [Builtin.max2]
          omega
      case min =>
        split at h <;> try exact h.elim
        rename_i k m k' n' hvs
        obtain ⟨r, rfl, hF⟩ := h
        exact done hF fun w => by
          simp only [execOp, resolve, ea hvs, invoke, builtin, Builtin.min_, Sem.run_bind, Sem.run_pure, Result.andThen_ok]
          simp [Builtin.min2]
          omega
end
end Go.V
