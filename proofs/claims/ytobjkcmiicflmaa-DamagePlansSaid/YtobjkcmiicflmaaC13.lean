/- Spans: are, Width. -/
import Derived.Test.YtobjkcmiicflmaaC12
import Derived.Laws.StructEq
set_option maxRecDepth 100000
set_option linter.unusedVariables false
namespace Go.Proofs.Ytobjkcmiicflmaa
open Go Go.V Go.V.Heaps

theorem ne_sp {xo yo : Operand} (x : Sp) {F : Value → Prop} (hF : F (.bool false)) : veqAny Try.prog .neq 35 xo yo (.agg (spC x).toArray) (.agg (spC x).toArray) F := by
  refine ⟨.bool false, fun w => ?_, hF⟩
  have hg : Try.prog.eqGuardType Try.prog.depth 35 = false := by kernel_rfl
  have hf : Try.prog.fieldsOf 35 = #[⟨"Row", 3, 0, false, "", "", 0⟩, ⟨"Left", 3, 1, false, "", "", 8⟩, ⟨"Right", 3, 2, false, "", "", 16⟩] := by unfold Program.fieldsOf; rw [Try.underlying35]
  have hu : Try.prog.underlying 35 = some (.struct (Try.prog.fieldsOf 35)) := by rw [hf, Try.underlying35]
  have hp : Try.prog.stoodInHeld 35 = false := by kernel_rfl
  have pt : ∀ (t off : Nat) (v : Value), vfield Try.prog t (spC x).toArray off (fun u => u = v) → ∀ w : World, (part t (spC x).toArray off).run Try.prog w = .ok v w := fun t off v hv w => by
    obtain ⟨u, rfl, hu⟩ := vfield_run hv
    exact hu w
  simp only [Sem.run_bind, run_eqGuard_agg w .neq 35 xo yo _ _ hg, Result.andThen_ok, run_neq_struct, run_equalIn_struct w 9999 35 _ _ hu hp, hf]
  simp [Op.eqFields, pt 3 0 (.int .i64 x.row) rfl, pt 3 1 (.int .i64 x.left) rfl, pt 3 2 (.int .i64 x.right) rfl, run_equalIn_int w 9998 3 .i64 .i64 _ _ Try.underlying3]

theorem are_fn {h : Heap} {v u : Value} {ls : List Sp} (hv : SpansV h v ls) (hu : SpansV h u ls) (hn : ls.length ≤ 1000) : FnS Try.prog 9 [v, u] h fun r h' => r = .bool true ∧ h' = h := by
  obtain ⟨A, c, rfl, _, hr⟩ := hv
  obtain ⟨A2, c2, rfl, _, hr2⟩ := hu
  refine FnS.intro Try.func9 rfl rfl rfl ?_
  refine Sat.seq ?_
  refine Sat.region rfl ?_
  refine Sat.seq ?_
  refine Sat.seq ?_
  refine Sat.region rfl ?_
  refine ⟨rfl, fun h1 => absurd rfl h1, fun _ => ?_⟩
  refine Sat.cond ?_
  refine Sat.skip ?_
  refine Sat.seq ?_
  refine Sat.seq ?_
  refine Sat.region rfl ?_
  refine Sat.block ?_
  refine Sat.loop (X := Nat) (fun i => [(0, .slice A ls.length c), (1, .slice A2 ls.length c2), (12, .int .i64 (ls.length : Int)), (13, .int .i64 (i : Int))]) (fun i h' => h' = h ∧ i ≤ ls.length) (fun i => ls.length - i) 0 ⟨rfl, rfl, rfl, rfl, trivial⟩ ⟨rfl, Nat.zero_le _⟩ ?_
  rintro i h1 ⟨rfl, hi⟩
  refine Sat.seq ?_
  refine Sat.region rfl ?_
  refine ⟨rfl, fun h2 => ?_, fun h2 => ?_⟩
  rotate_left
  · refine Sat.seq ?_
    refine Sat.cond ?_
    refine Sat.exit ?_
    refine Sat.seq ?_
    refine Sat.region rfl ?_
    refine Sat.ret ?_
    exact ⟨rfl, rfl⟩
  have hil : i < ls.length := by omega
  have hx : ls[i]? = some ls[i] := List.getElem?_eq_getElem hil
  obtain ⟨p, rfl, hp⟩ : ∃ p, A = some p ∧ ∀ (k : Nat) x, ls[k]? = some x → Row h1 (p.add (k * 3)) (spC x) := by
    rcases hr with h0 | h0
    · subst h0; simp at hil
    · exact h0
  obtain ⟨p2, rfl, hp2⟩ : ∃ p, A2 = some p ∧ ∀ (k : Nat) x, ls[k]? = some x → Row h1 (p.add (k * 3)) (spC x) := by
    rcases hr2 with h0 | h0
    · subst h0; simp at hil
    · exact h0
  have r1 := hp i _ hx
  have r2 := hp2 i _ hx
  generalize ls[i] = x at *
  refine Sat.seq ?_
  refine Sat.cond ?_
  refine Sat.skip ?_
  refine Sat.seq ?_
  refine Sat.block ?_
  refine Sat.seq ?_
  refine Sat.region rfl ?_
  refine Sat.seq ?_
  refine Sat.drawn .plain rfl (by kernel_rfl) ?_
  refine ⟨p, i, rfl, rfl, hil, spC x, rfl, r1, ?_⟩
  refine ⟨p2, i, rfl, rfl, hil, by decide, .int .i64 x.row, r2 0 _ rfl, p2, i, rfl, rfl, hil, by decide, .int .i64 x.left, r2 1 _ rfl, p2, i, rfl, rfl, hil, by decide, .int .i64 x.right, r2 2 _ rfl, ?_⟩
  refine build_strct rfl rfl rfl (cells := (spC x).toArray) (by kernel_rfl) ?_
  refine ne_sp x ?_
  refine Sat.cond ?_
  refine Sat.skip ?_
  refine Sat.region rfl ?_
  refine ⟨rfl, ((i + 1 : Nat) : Int), by rw [wrap_i64 (by omega) (by omega)]; omega, ?_⟩
  exact ⟨i + 1, ⟨rfl, rfl, rfl, rfl, trivial⟩, ⟨rfl, hil⟩, by omega⟩

def widS (x : Sp) : Int := wid x.left x.right
def OkSp (x : Sp) : Prop := -1000000 ≤ x.left ∧ x.right ≤ 1000000
def sumW (ls : List Sp) : Int := (ls.map widS).sum
theorem sumW_take {ls : List Sp} {i : Nat} (hi : i < ls.length) : sumW (ls.take (i + 1)) = sumW (ls.take i) + widS ls[i] := by
  unfold sumW
  rw [List.take_succ_eq_append_getElem hi, List.map_append, List.sum_append]
  simp
theorem sumW_bound : ∀ {ls : List Sp}, (∀ x ∈ ls, OkSp x) → 0 ≤ sumW ls ∧ sumW ls ≤ 2000000 * (ls.length : Int)
  | [], _ => by simp [sumW]
  | x :: r, h => by
    have h1 := h x (List.mem_cons_self ..)
    have h2 := sumW_bound (ls := r) fun y hy => h y (List.mem_cons_of_mem _ hy)
    have h3 := wid_bound h1.1 h1.2
    have e : sumW (x :: r) = widS x + sumW r := by simp [sumW]
    rw [e, List.length_cons]
    unfold widS
    omega

theorem widthS_fn {h : Heap} {v : Value} {ls : List Sp} (hv : SpansV h v ls) (hn : ls.length ≤ 1000) (hok : ∀ x ∈ ls, OkSp x) : FnS Try.prog 10 [v] h fun r h' => r = .int .i64 (sumW ls) ∧ Ext h h' := by
  obtain ⟨A, c, rfl, _, hr⟩ := hv
  refine FnS.intro Try.func10 rfl rfl rfl ?_
  refine Sat.seq ?_
  refine Sat.region rfl ?_
  refine Sat.seq ?_
  refine Sat.region rfl ?_
  refine Sat.seq ?_
  refine Sat.seq ?_
  refine Sat.region rfl ?_
  refine Sat.block ?_
  refine Sat.loop (X := Nat) (fun i => [(3, .int .i64 (sumW (ls.take i))), (6, .slice A ls.length c), (7, .int .i64 (ls.length : Int)), (8, .int .i64 (i : Int))]) (fun i h' => Ext h h' ∧ i ≤ ls.length) (fun i => ls.length - i) 0 ⟨rfl, rfl, rfl, rfl, trivial⟩ ⟨Ext.refl _, Nat.zero_le _⟩ ?_
  rintro i h1 ⟨x1, hi⟩
  refine Sat.seq ?_
  refine Sat.region rfl ?_
  refine ⟨rfl, fun h2 => ?_, fun h2 => ?_⟩
  rotate_left
  · refine Sat.seq ?_
    refine Sat.cond ?_
    refine Sat.exit ?_
    have : i = ls.length := by omega
    subst this
    rw [List.take_length]
    refine Sat.seq ?_
    refine Sat.region rfl ?_
    refine Sat.ret ?_
    exact ⟨rfl, x1⟩
  have hil : i < ls.length := by omega
  have hx : ls[i]? = some ls[i] := List.getElem?_eq_getElem hil
  obtain ⟨p, rfl, hp⟩ : ∃ p, A = some p ∧ ∀ (k : Nat) x, ls[k]? = some x → Row h (p.add (k * 3)) (spC x) := by
    rcases hr with h0 | h0
    · subst h0; simp at hil
    · exact h0
  have r1 := (hp i _ hx).ext x1
  have ht := sumW_take hil
  have hb := sumW_bound (ls := ls.take i) fun x hx => hok x (List.mem_of_mem_take hx)
  have hm := hok _ (List.mem_of_getElem? hx)
  have hl : (ls.take i).length = i := by rw [List.length_take]; omega
  rw [hl] at hb
  generalize ls[i] = x at *
  have hw := wid_bound hm.1 hm.2
  refine Sat.seq ?_
  refine Sat.cond ?_
  refine Sat.skip ?_
  refine Sat.seq ?_
  refine Sat.block ?_
  refine Sat.seq ?_
  refine Sat.region rfl ?_
  refine ⟨p, i, rfl, rfl, hil, _, rfl, r1, ?_⟩
  obtain ⟨hA, eA⟩ : ∃ hA, hA = h1.push (.cells #[.int .i64 0, .int .i64 0, .int .i64 0] 35) := ⟨_, rfl⟩
  have xA : Ext h1 hA := by rw [eA]; exact Ext.push h1 _
  have bA : Blk hA h1.size 35 #[.int .i64 0, .int .i64 0, .int .i64 0] := by rw [eA]; exact Blk.new h1 _ _
  refine ⟨rfl, one_sp x, (Blk.new h1 35 #[.int .i64 0, .int .i64 0, .int .i64 0]).okAt (by decide), ?_⟩
  obtain ⟨hB, eB⟩ : ∃ hB, hB = setRow hA ⟨h1.size, 0, none⟩ (spC x) 0 := ⟨_, rfl⟩
  have xB : Ext h1 hB := by rw [eB]; exact setRow_new xA (Nat.le_refl _) _ _
  have bB : Blk hB h1.size 35 (spC x).toArray := by rw [eB]; exact bA.whole rfl
  refine Sat.at (h' := hB) (by rw [eB, eA]; rfl) ?_
  refine Sat.region rfl ?_
  refine ⟨_, rfl, bB.row, ?_⟩
  refine (width_fn x.row x.left x.right hm.1 hm.2).mono ?_
  rintro u h3 ⟨rfl, x3⟩
  refine ⟨rfl, sumW (ls.take (i + 1)), by rw [ht]; exact wrap_i64 (by omega) (by omega), ?_⟩
  refine Sat.region rfl ?_
  refine ⟨rfl, ((i + 1 : Nat) : Int), by rw [wrap_i64 (by omega) (by omega)]; omega, ?_⟩
  exact ⟨i + 1, ⟨rfl, rfl, rfl, rfl, trivial⟩, ⟨x1.trans (xB.trans x3), hil⟩, by omega⟩
end Go.Proofs.Ytobjkcmiicflmaa
