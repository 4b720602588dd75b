/- A drawn region of operations, walked in the order of its text: the general law. Plain definitions and theorems; no program in sight. -/
import Derived.WalkKit
set_option linter.unusedVariables false
namespace Go.V
open Go

def Keep (w w' : World) : Prop := w'.tape = w.tape ∧ w'.os = w.os ∧ w'.output = w.output
theorem Keep.refl (w : World) : Keep w w := ⟨rfl, rfl, rfl⟩
theorem Keep.trans {a b c : World} (h : Keep a b) (k : Keep b c) : Keep a c := ⟨k.1.trans h.1, k.2.1.trans h.2.1, k.2.2.trans h.2.2⟩
theorem Keep.symm {a b : World} (h : Keep a b) : Keep b a := ⟨h.1.symm, h.2.1.symm, h.2.2.symm⟩

/-- The same heap; a draw may have been made. -/
def Sim (w w' : World) : Prop := w'.heap = w.heap ∧ Keep w w'
theorem Sim.refl (w : World) : Sim w w := ⟨rfl, Keep.refl w⟩
theorem Sim.trans {a b c : World} (h : Sim a b) (k : Sim b c) : Sim a c := ⟨k.1.trans h.1, h.2.trans k.2⟩
theorem Sim.symm {a b : World} (h : Sim a b) : Sim b a := ⟨h.1.symm, h.2.symm⟩

inductive Cls where
  | pure | load | read | ext | eff
  deriving DecidableEq

/-- The two worlds hold the same in the blocks of b. -/
def Agr (b : Nat → Prop) (w w' : World) : Prop := ∀ k, b k → w'.heap[k]? = w.heap[k]?
theorem Agr.refl (b : Nat → Prop) (w : World) : Agr b w w := fun _ _ => rfl
theorem Agr.trans {b : Nat → Prop} {x y z : World} (h : Agr b x y) (k : Agr b y z) : Agr b x z := fun i hi => (k i hi).trans (h i hi)
theorem Agr.symm {b : Nat → Prop} {x y : World} (h : Agr b x y) : Agr b y x := fun i hi => (h i hi).symm
theorem Sim.agr {b : Nat → Prop} {x y : World} (h : Sim x y) : Agr b x y := fun i _ => by rw [h.1]

section
variable {P : Program} {ops : Array Oper} {cl : Oper → Cls} {b : Nat → Prop}

/-- Whatever the world, the operation gives v. -/
def PureY (P : Program) (o : Oper) (a : Act) (v : Value) : Prop := ∀ w, (execOp a.eval o).run P w = .ok (.value v) w
/-- In every world that holds the same below block b the operation gives v. -/
def LoadY (b : Nat → Prop) (P : Program) (o : Oper) (a : Act) (w : World) (v : Value) : Prop := ∀ w', Agr b w w' → (execOp a.eval o).run P w' = .ok (.value v) w'
def ReadY (P : Program) (o : Oper) (a : Act) (w : World) (v : Value) : Prop := ∀ w', Sim w w' →
  (∃ w'', Sim w' w'' ∧ (execOp a.eval o).run P w' = .ok (.value v) w'') ∨
  (∃ w'' f args, Sim w' w'' ∧ (execOp a.eval o).run P w' = .ok (.enter f args) w'' ∧ Calls P f args w'' (fun x w3 => x = .returned v ∧ Sim w'' w3))
def EffY (P : Program) (o : Oper) (a : Act) (w : World) (F : Value → World → Prop) : Prop :=
  ∃ nx w', (execOp a.eval o).run P w = .ok nx w' ∧ match nx with
    | .value v => F v w'
    | .skip => F undef w'
    | .enter f args => Calls P f args w' (fun x w'' => ∃ v, x = .returned v ∧ F v w'')
    | _ => False

theorem EffY.mono {o : Oper} {a : Act} {w : World} {F F' : Value → World → Prop} (h : ∀ v w, F v w → F' v w) (hh : EffY P o a w F) : EffY P o a w F' := by
  obtain ⟨nx, w', hr, hm⟩ := hh
  refine ⟨nx, w', hr, ?_⟩
  cases nx <;> simp only at hm ⊢ <;> first
    | exact h _ _ hm
    | exact hm.mono fun x w'' ⟨v, hx, hv⟩ => ⟨v, hx, h _ _ hv⟩

theorem Calls.some_end {f : FuncId} {args : Array Value} {w : World} {R : Ending → World → Prop} (h : Calls P f args w R) : ∃ e w', R e w' := by
  obtain ⟨e, w', _, hR, _⟩ := h []
  exact ⟨e, w', hR⟩

theorem EffY.some_end {o : Oper} {a : Act} {w : World} {F : Value → World → Prop} (hh : EffY P o a w F) : ∃ v w', F v w' := by
  obtain ⟨nx, w', hr, hm⟩ := hh
  cases nx <;> simp only at hm <;> first
    | exact ⟨_, _, hm⟩
    | (obtain ⟨e, w'', v, _, hv⟩ := Calls.some_end hm; exact ⟨v, w'', hv⟩)

/-- What an operation does, by its class; F: what must hold of its value and the world behind it. b: loads read below block b, and what extends leaves all below b as it was. -/
def cont (b : Nat → Prop) (P : Program) (ops : Array Oper) (cl : Oper → Cls) (o : Oper) (a : Act) (w : World) (F : Value → World → Prop) : Prop :=
  if Region.wanted o (yielded ops a.tmps) = true then
    match cl o with
    | .pure => ∃ v, PureY P o a v ∧ F v w
    | .load => ∃ v, LoadY b P o a w v ∧ F v w
    | .read => ∃ v, ReadY P o a w v ∧ ∀ w', Sim w w' → F v w'
    | .ext => EffY P o a w fun v w' => Agr b w w' ∧ F v w'
    | .eff => EffY P o a w F
  else F undef w

theorem cont_mono {o : Oper} {a : Act} {w : World} {F F' : Value → World → Prop} (h : ∀ v w, F v w → F' v w) (hh : cont b P ops cl o a w F) : cont b P ops cl o a w F' := by
  unfold cont at *
  split
  · rename_i hw
    rw [if_pos hw] at hh
    split <;> rename_i hc <;> simp only [hc] at hh
    · obtain ⟨v, hy, hf⟩ := hh; exact ⟨v, hy, h _ _ hf⟩
    · obtain ⟨v, hy, hf⟩ := hh; exact ⟨v, hy, h _ _ hf⟩
    · obtain ⟨v, hy, hf⟩ := hh; exact ⟨v, hy, fun w' hs => h _ _ (hf w' hs)⟩
    · exact hh.mono fun v w' ⟨hj, hf⟩ => ⟨hj, h _ _ hf⟩
    · exact hh.mono h
  · rename_i hw
    rw [if_neg hw] at hh
    exact h _ _ hh

theorem cont_congr {o : Oper} {a a' : Act} {w : World} {F : Value → World → Prop} (he : execOp a'.eval o = execOp a.eval o) (hw : Region.wanted o (yielded ops a'.tmps) = Region.wanted o (yielded ops a.tmps)) :
    cont b P ops cl o a' w F ↔ cont b P ops cl o a w F := by
  unfold cont PureY LoadY ReadY EffY
  rw [he, hw]

theorem cont_end {o : Oper} {a : Act} {w : World} {F : Value → World → Prop} (hh : cont b P ops cl o a w F) : ∃ v w', F v w' := by
  unfold cont at hh
  split at hh
  · split at hh
    · obtain ⟨v, _, hf⟩ := hh; exact ⟨v, w, hf⟩
    · obtain ⟨v, _, hf⟩ := hh; exact ⟨v, w, hf⟩
    · obtain ⟨v, _, hf⟩ := hh; exact ⟨v, w, hf w (Sim.refl w)⟩
    · obtain ⟨v, w', _, hf⟩ := hh.some_end; exact ⟨v, w', hf⟩
    · exact hh.some_end
  · exact ⟨_, _, hh⟩

/-- A pure operation's value hangs on nothing but its operands. -/
theorem cont_pure {o : Oper} {a : Act} {w : World} {F : Value → World → Prop} (hc : cl o = .pure) (hh : cont b P ops cl o a w F) :
    ∃ v, F v w ∧ (∀ w' (F' : Value → World → Prop), F' v w' → cont b P ops cl o a w' F') ∧ (∀ w' (F' : Value → World → Prop), cont b P ops cl o a w' F' → F' v w') := by
  unfold cont at *
  simp only [hc] at *
  split at hh
  · rename_i hw
    obtain ⟨v, hy, hf⟩ := hh
    refine ⟨v, hf, fun w' F' h => ?_, fun w' F' h => ?_⟩
    · rw [if_pos hw]; exact ⟨v, hy, h⟩
    · rw [if_pos hw] at h
      obtain ⟨u, hu, hF⟩ := h
      have h1 := hu w'
      rw [hy w'] at h1
      injection h1 with h1
      injection h1 with h1
      subst h1
      exact hF
  · rename_i hw
    refine ⟨undef, hh, fun w' F' h => ?_, fun w' F' h => ?_⟩
    · rw [if_neg hw]; exact h
    · rw [if_neg hw] at h; exact h
/-- A load's value is the same wherever the worlds hold the same below b. -/
theorem cont_load {o : Oper} {a : Act} {w : World} {F : Value → World → Prop} (hc : cl o = .load) (hh : cont b P ops cl o a w F) :
    ∃ v, F v w ∧ (∀ w' (F' : Value → World → Prop), Agr b w w' → F' v w' → cont b P ops cl o a w' F') ∧ (∀ w' (F' : Value → World → Prop), Agr b w w' → cont b P ops cl o a w' F' → F' v w') := by
  unfold cont at *
  simp only [hc] at *
  split at hh
  · rename_i hw
    obtain ⟨v, hy, hf⟩ := hh
    refine ⟨v, hf, fun w' F' ha h => ?_, fun w' F' ha h => ?_⟩
    · rw [if_pos hw]; exact ⟨v, fun w'' hb => hy w'' (ha.trans hb), h⟩
    · rw [if_pos hw] at h
      obtain ⟨u, hu, hF⟩ := h
      have h1 := hu w' (Agr.refl b w')
      rw [hy w' ha] at h1
      injection h1 with h1
      injection h1 with h1
      subst h1
      exact hF
  · rename_i hw
    refine ⟨undef, hh, fun w' F' _ h => ?_, fun w' F' _ h => ?_⟩
    · rw [if_neg hw]; exact h
    · rw [if_neg hw] at h; exact h

theorem ReadY.sim {o : Oper} {a : Act} {w w' : World} {v : Value} (h : ReadY P o a w v) (hs : Sim w w') : ReadY P o a w' v := fun w'' hs' => h w'' (hs.trans hs')

def sop (b : Nat → Prop) (P : Program) (ops : Array Oper) (cl : Oper → Cls) (o : Oper) (K : Act → World → Prop) (a : Act) (w : World) : Prop :=
  cont b P ops cl o a w (fun v w' => K (a.put o.dst v) w')

theorem sop_mono {o : Oper} {a : Act} {w : World} {K K' : Act → World → Prop} (h : ∀ a w, K a w → K' a w) (hh : sop b P ops cl o K a w) : sop b P ops cl o K' a w :=
  cont_mono (fun _ _ => h _ _) hh

def Cls.meets : Cls → Cls → Bool
  | .pure, _ => true
  | _, .pure => true
  | .load, .eff => false
  | .eff, .load => false
  | .load, _ => true
  | _, .load => true
  | .read, .read => true
  | _, _ => false

def commB (ops : Array Oper) (cl : Oper → Cls) (p i : Oper) : Bool := p.apart ops i && (cl p).meets (cl i)

/-- Behind what does not touch what lies below b a load may be taken first. -/
theorem cont_after {p i : Oper} {a : Act} {w : World} {F : Value → Value → World → Prop} (hi : cl i = .load) (hp : cl p = .read ∨ cl p = .ext ∨ cl p = .load)
    (H : cont b P ops cl p a w (fun v w' => cont b P ops cl i a w' (fun u w'' => F v u w''))) : cont b P ops cl i a w (fun u w' => cont b P ops cl p a w' (fun v w'' => F v u w'')) := by
  -- with the worlds' agreement told in F
  have H2 : cont b P ops cl p a w (fun v w' => Agr b w w' ∧ cont b P ops cl i a w' (fun u w'' => F v u w'')) := by
    unfold cont at H ⊢
    split
    · rename_i hw
      rw [if_pos hw] at H
      rcases hp with hp | hp | hp <;> simp only [hp] at H ⊢
      · obtain ⟨v, hv, hF⟩ := H; exact ⟨v, hv, fun w' hs => ⟨hs.agr, hF w' hs⟩⟩
      · exact H.mono fun v w' ⟨ha, hF⟩ => ⟨ha, ha, hF⟩
      · obtain ⟨v, hv, hF⟩ := H; exact ⟨v, hv, Agr.refl b w, hF⟩
    · rename_i hw
      rw [if_neg hw] at H
      exact ⟨Agr.refl b w, H⟩
  obtain ⟨v0, w0, ha0, h0⟩ := cont_end H2
  obtain ⟨u, _, hin, hdet⟩ := cont_load hi h0
  refine hin w _ ha0.symm (cont_mono (fun v w' ⟨ha, h⟩ => hdet w' _ (ha0.symm.trans ha) h) H2)

theorem sop_swap {p i : Oper} {K : Act → World → Prop} {a : Act} {w : World} (hc : commB ops cl p i = true) (hsp : ∀ cs b, p.op ≠ .select cs b) (hsi : ∀ cs b, i.op ≠ .select cs b)
    (H : sop b P ops cl p (sop b P ops cl i K) a w) : sop b P ops cl i (sop b P ops cl p K) a w := by
  simp only [commB, Bool.and_eq_true] at hc
  obtain ⟨hap, hm⟩ := hc
  obtain ⟨h1, h2, h3⟩ := Oper.apart_spec hap
  have ci : ∀ (a : Act) (v : Value) (w : World) (F : Value → World → Prop), cont b P ops cl i (a.put p.dst v) w F ↔ cont b P ops cl i a w F := fun a v w F =>
    cont_congr (execOp_put i hsi a p.dst v h1) (wanted_put i a p.dst v h1)
  have cp : ∀ (a : Act) (v : Value) (w : World) (F : Value → World → Prop), cont b P ops cl p (a.put i.dst v) w F ↔ cont b P ops cl p a w F := fun a v w F =>
    cont_congr (execOp_put p hsp a i.dst v h3) (wanted_put p a i.dst v h3)
  have pc : ∀ v u : Value, (a.put p.dst v).put i.dst u = (a.put i.dst u).put p.dst v := fun v u => Act.put_comm a v u h2
  have H' : cont b P ops cl p a w (fun v w' => cont b P ops cl i a w' (fun u w'' => K ((a.put i.dst u).put p.dst v) w'')) := by
    unfold sop at H
    refine cont_mono (fun v w' h => ?_) H
    rw [ci] at h
    exact cont_mono (fun u w'' h => by rw [← pc]; exact h) h
  have G : cont b P ops cl i a w (fun u w' => cont b P ops cl p a w' (fun v w'' => K ((a.put i.dst u).put p.dst v) w'')) → sop b P ops cl i (sop b P ops cl p K) a w := by
    intro h
    unfold sop
    refine cont_mono (fun u w' h => ?_) h
    rw [cp]
    exact h
  apply G
  -- i pure: whatever p is
  have ipure : cl i = .pure → cont b P ops cl i a w (fun u w' => cont b P ops cl p a w' (fun v w'' => K ((a.put i.dst u).put p.dst v) w'')) := fun hci => by
    obtain ⟨v0, w0, h0⟩ := cont_end H'
    obtain ⟨u, _, hin, hdet⟩ := cont_pure hci h0
    exact hin w _ (cont_mono (fun v w' h => hdet w' _ h) H')
  -- i a load behind what keeps what lies below b
  have iload : cl i = .load → (cl p = .read ∨ cl p = .ext ∨ cl p = .load) → cont b P ops cl i a w (fun u w' => cont b P ops cl p a w' (fun v w'' => K ((a.put i.dst u).put p.dst v) w'')) := fun hi hp =>
    cont_after (F := fun v u w'' => K ((a.put i.dst u).put p.dst v) w'') hi hp H'
  cases hcp : cl p with
  | pure =>
    obtain ⟨v, hf, hin, _⟩ := cont_pure hcp H'
    exact cont_mono (fun u w' h => hin w' _ h) hf
  | load =>
    cases hci : cl i with
    | pure => exact ipure hci
    | load => exact iload hci (.inr (.inr hcp))
    | read =>
      obtain ⟨v, hf, hin, _⟩ := cont_load hcp H'
      unfold cont at hf ⊢
      split
      · rename_i hw
        rw [if_pos hw] at hf
        simp only [hci] at hf ⊢
        obtain ⟨u, hu, hF⟩ := hf
        exact ⟨u, hu, fun w' hs => hin w' _ hs.agr (hF w' hs)⟩
      · rename_i hw
        rw [if_neg hw] at hf
        exact hin w _ (Agr.refl b w) hf
    | ext =>
      obtain ⟨v, hf, hin, _⟩ := cont_load hcp H'
      unfold cont at hf ⊢
      split
      · rename_i hw
        rw [if_pos hw] at hf
        simp only [hci] at hf ⊢
        exact hf.mono fun u w' ⟨ha, hF⟩ => ⟨ha, hin w' _ ha hF⟩
      · rename_i hw
        rw [if_neg hw] at hf
        exact hin w _ (Agr.refl b w) hf
    | eff => rw [hcp, hci] at hm; cases hm
  | read =>
    cases hci : cl i with
    | pure => exact ipure hci
    | load => exact iload hci (.inl hcp)
    | read =>
      unfold cont at *
      simp only [hcp, hci] at *
      split at H'
      · rename_i hwp
        obtain ⟨v, hv, hF⟩ := H'
        have hF0 := hF w (Sim.refl w)
        split at hF0
        · rename_i hwi
          rw [if_pos hwi]
          obtain ⟨u, hu, hK⟩ := hF0
          refine ⟨u, hu, fun w' hs => ?_⟩
          rw [if_pos hwp]
          exact ⟨v, hv.sim hs, fun w'' hs' => hK w'' (hs.trans hs')⟩
        · rename_i hwi
          rw [if_neg hwi, if_pos hwp]
          refine ⟨v, hv, fun w' hs => ?_⟩
          have := hF w' hs
          rwa [if_neg hwi] at this
      · rename_i hwp
        simp only [if_neg hwp]
        exact H'
    | ext => rw [hcp, hci] at hm; cases hm
    | eff => rw [hcp, hci] at hm; cases hm
  | ext =>
    cases hci : cl i with
    | pure => exact ipure hci
    | load => exact iload hci (.inr (.inl hcp))
    | read => rw [hcp, hci] at hm; cases hm
    | ext => rw [hcp, hci] at hm; cases hm
    | eff => rw [hcp, hci] at hm; cases hm
  | eff =>
    cases hci : cl i with
    | pure => exact ipure hci
    | load => rw [hcp, hci] at hm; cases hm
    | read => rw [hcp, hci] at hm; cases hm
    | ext => rw [hcp, hci] at hm; cases hm
    | eff => rw [hcp, hci] at hm; cases hm

theorem wp_of_cont {o : Oper} {a : Act} {w : World} {K : Act → World → Prop} {Q : Exit → Act → World → Prop} (hw : Region.wanted o (yielded ops a.tmps) = true)
    (h : cont b P ops cl o a w (fun v w' => K (a.put o.dst v) w')) : o.wp P a w K Q := by
  have eff : ∀ {F : Value → World → Prop}, EffY P o a w F → (∀ v w', F v w' → K (a.put o.dst v) w') → o.wp P a w K Q := fun {F} hE hF => by
    unfold Oper.wp
    obtain ⟨nx, w', hr, hm⟩ := hE
    rw [hr]
    cases nx <;> simp only at hm
    · rw [Oper.upon_value]; exact hF _ _ hm
    · rw [Oper.upon_skip]; exact hF _ _ hm
    · rw [Oper.upon_enter]
      refine hm.mono fun x w'' ⟨v, hx, hv⟩ => ?_
      subst hx
      exact hF _ _ hv
  unfold cont at h
  rw [if_pos hw] at h
  split at h
  · obtain ⟨v, hy, hF⟩ := h
    unfold Oper.wp
    rw [hy w, Oper.upon_value]; exact hF
  · obtain ⟨v, hy, hF⟩ := h
    unfold Oper.wp
    rw [hy w (Agr.refl b w), Oper.upon_value]; exact hF
  · obtain ⟨v, hy, hF⟩ := h
    unfold Oper.wp
    rcases hy w (Sim.refl w) with ⟨w'', hs, hr⟩ | ⟨w'', f, args, hs, hr, hcall⟩
    · rw [hr, Oper.upon_value]; exact hF w'' hs
    · rw [hr, Oper.upon_enter]
      refine hcall.mono fun x w3 ⟨hx, hs'⟩ => ?_
      subst hx
      exact hF w3 (hs.trans hs')
  · exact eff h fun v w' hF => hF.2
  · exact eff h fun v w' hF => hF

def sopi (b : Nat → Prop) (P : Program) (ops : Array Oper) (cl : Oper → Cls) (i : Nat) (K : Act → World → Prop) (a : Act) (w : World) : Prop :=
  match ops[i]? with
  | some o => sop b P ops cl o K a w
  | none => K a w

theorem sopi_mono {i : Nat} {a : Act} {w : World} {K K' : Act → World → Prop} (h : ∀ a w, K a w → K' a w) (hh : sopi b P ops cl i K a w) : sopi b P ops cl i K' a w := by
  unfold sopi at *
  split
  · rename_i ho; simp only [ho] at hh; exact sop_mono h hh
  · rename_i ho; simp only [ho] at hh; exact h _ _ hh

theorem wpOp_of_sopi {i : Nat} {a : Act} {w : World} {K : Act → World → Prop} {Q : Exit → Act → World → Prop} (hh : sopi b P ops cl i K a w) : wpOp P ops Q i K a w := by
  unfold sopi at hh
  unfold wpOp
  split
  · rename_i ho; simp only [ho] at hh; exact hh
  · rename_i o ho
    simp only [ho] at hh
    split
    · rename_i hw; exact .inl (wp_of_cont hw hh)
    · rename_i hw
      unfold sop cont at hh
      rw [if_neg hw] at hh
      exact hh

def sl (b : Nat → Prop) (P : Program) (ops : Array Oper) (cl : Oper → Cls) (K : Act → World → Prop) : List Nat → Act → World → Prop
  | [], a, w => K a w
  | i :: r, a, w => sopi b P ops cl i (sl b P ops cl K r) a w

def commi (ops : Array Oper) (cl : Oper → Cls) (p i : Nat) : Bool :=
  match ops[p]?, ops[i]? with
  | some x, some y => commB ops cl x y
  | _, _ => true

theorem sopi_swap {p i : Nat} {K : Act → World → Prop} {a : Act} {w : World} (hs : Region.noSelect ops = true) (hc : commi ops cl p i = true) (H : sopi b P ops cl p (sopi b P ops cl i K) a w) : sopi b P ops cl i (sopi b P ops cl p K) a w := by
  unfold commi at hc
  cases hp : ops[p]? with
  | none =>
    have e : ∀ K : Act → World → Prop, sopi b P ops cl p K = K := fun K => by funext a w; unfold sopi; rw [hp]
    rw [e] at H
    rw [e]
    exact H
  | some x =>
    cases hi : ops[i]? with
    | none =>
      have e : ∀ K : Act → World → Prop, sopi b P ops cl i K = K := fun K => by funext a w; unfold sopi; rw [hi]
      rw [e] at H
      rw [e]
      exact H
    | some y =>
      have ep : ∀ K : Act → World → Prop, sopi b P ops cl p K = sop b P ops cl x K := fun K => by funext a w; unfold sopi; rw [hp]
      have ei : ∀ K : Act → World → Prop, sopi b P ops cl i K = sop b P ops cl y K := fun K => by funext a w; unfold sopi; rw [hi]
      rw [ep, ei] at H
      rw [ep, ei]
      simp only [hp, hi] at hc
      exact sop_swap hc (fun cs b => Region.noSelect_spec hs p x cs b hp) (fun cs b => Region.noSelect_spec hs i y cs b hi) H

theorem sl_front {i : Nat} {K : Act → World → Prop} (hs : Region.noSelect ops = true) : ∀ (pre post : List Nat) (a : Act) (w : World), (∀ p ∈ pre, commi ops cl p i = true) →
    sl b P ops cl K (pre ++ i :: post) a w → sopi b P ops cl i (sl b P ops cl K (pre ++ post)) a w
  | [], _, _, _, _, h => h
  | p :: pre, post, a, w, hc, h => by
    have h' : sopi b P ops cl p (sopi b P ops cl i (sl b P ops cl K (pre ++ post))) a w :=
      sopi_mono (fun a w h => sl_front hs pre post a w (fun q hq => hc q (List.mem_cons_of_mem _ hq)) h) h
    exact sopi_swap hs (hc p (List.mem_cons_self ..)) h'

/-! ### which waits for which -/
def deps (o : Oper) : List Nat := o.after.toList.filterMap fun e => if Region.binds .any e then some e.on else none
inductive Waits (ops : Array Oper) : Nat → Nat → Prop where
  | one {j i : Nat} {o : Oper} : ops[j]? = some o → i ∈ deps o → Waits ops j i
  | more {j k i : Nat} : Waits ops j k → Waits ops k i → Waits ops j i

def addAll : List Nat → List Nat → List Nat
  | [], acc => acc
  | x :: r, acc => addAll r (bif acc.contains x then acc else x :: acc)
theorem mem_addAll {x : Nat} : ∀ (l acc : List Nat), x ∈ addAll l acc → x ∈ l ∨ x ∈ acc
  | [], acc, h => .inr h
  | y :: r, acc, h => by
    rcases mem_addAll r _ h with h' | h'
    · exact .inl (List.mem_cons_of_mem _ h')
    · cases hc : acc.contains y with
      | true => rw [hc] at h'; exact .inr h'
      | false =>
        rw [hc] at h'
        simp only [cond_false, List.mem_cons] at h'
        rcases h' with h' | h'
        · subst h'; exact .inl (List.mem_cons_self ..)
        · exact .inr h'
def ancGo : List Oper → Array (List Nat) → Array (List Nat)
  | [], acc => acc
  | o :: r, acc => ancGo r (acc.push (addAll ((deps o).flatMap fun d => acc.getD d []) (deps o)))

theorem ancGo_spec : ∀ (l : List Oper) (acc : Array (List Nat)), (∀ j, l[j]? = ops[acc.size + j]?) → (∀ j i, i ∈ acc.getD j [] → Waits ops j i) →
    ∀ j i, i ∈ (ancGo l acc).getD j [] → Waits ops j i
  | [], acc, _, h, j, i, hi => h j i hi
  | o :: r, acc, hl, h, j, i, hi => by
    have ho : ops[acc.size]? = some o := by simpa using (hl 0).symm
    refine ancGo_spec r _ (fun k => ?_) (fun j i hi => ?_) j i hi
    · have := hl (k + 1)
      simp only [List.getElem?_cons_succ] at this
      rw [this, Array.size_push]
      congr 1
      omega
    · rcases Nat.lt_trichotomy j acc.size with hj | hj | hj
      · refine h j i ?_
        simpa [Array.getD, Array.getElem_push, hj, Nat.lt_succ_of_lt hj] using hi
      · subst hj
        have hi' : i ∈ addAll ((deps o).flatMap fun d => acc.getD d []) (deps o) := by simpa [Array.getD] using hi
        rcases mem_addAll _ _ hi' with h' | h'
        · obtain ⟨d, hd, hi⟩ := List.mem_flatMap.1 h'
          exact .more (.one ho hd) (h d i hi)
        · exact .one ho h'
      · have : ¬ j < acc.size + 1 := by omega
        simp [Array.getD, this] at hi

def anc (ops : Array Oper) : Array (List Nat) := ancGo ops.toList #[]
theorem anc_spec {j i : Nat} (h : i ∈ (anc ops).getD j []) : Waits ops j i :=
  ancGo_spec (ops := ops) ops.toList #[] (fun j => by simp) (fun j i hi => by simp [Array.getD] at hi) j i h

def okOne (ops : Array Oper) (cl : Oper → Cls) (an : Array (List Nat)) (j : Nat) : Bool :=
  (match ops[j]? with | some o => (deps o).all fun d => Nat.blt d j | none => true) &&
  (List.range j).all fun i => commi ops cl i j || (an.getD j []).contains i
/-- MAY THE REGION BE WALKED IN THE ORDER OF ITS TEXT? -/
def okOrder (ops : Array Oper) (cl : Oper → Cls) : Bool := Region.noSelect ops && (List.range ops.size).all fun j => okOne ops cl (anc ops) j

theorem okOrder_spec (h : okOrder ops cl = true) : Region.noSelect ops = true ∧ (∀ j o d, ops[j]? = some o → d ∈ deps o → d < j) ∧ (∀ i j, i < j → j < ops.size → commi ops cl i j = true ∨ Waits ops j i) := by
  simp only [okOrder, Bool.and_eq_true] at h
  obtain ⟨hs, hall⟩ := h
  have hj : ∀ j, j < ops.size → okOne ops cl (anc ops) j = true := fun j hj => (List.all_eq_true.1 hall) j (List.mem_range.2 hj)
  refine ⟨hs, fun j o d ho hd => ?_, fun i j hij hjs => ?_⟩
  · have h1 := hj j (Array.getElem?_eq_some_iff.1 ho).1
    simp only [okOne, ho, Bool.and_eq_true] at h1
    have := (List.all_eq_true.1 h1.1) d hd
    simpa [Nat.blt_eq] using this
  · have h1 := hj j hjs
    simp only [okOne, Bool.and_eq_true] at h1
    have := (List.all_eq_true.1 h1.2) i (List.mem_range.2 hij)
    simp only [Bool.or_eq_true] at this
    rcases this with h2 | h2
    · exact .inl h2
    · exact .inr (anc_spec (by simpa using h2))

/-! ### any order does what the text's order does -/
def Closed (ops : Array Oper) (listed : Array Bool) : Prop := ∀ j o d, ops[j]? = some o → listed.getD j false = true → d ∈ deps o → listed.getD d false = true
theorem Closed.waits {listed : Array Bool} (h : Closed ops listed) {j i : Nat} (hw : Waits ops j i) : listed.getD j false = true → listed.getD i false = true := by
  induction hw with
  | one ho hd => exact fun hj => h _ _ _ ho hj hd
  | more _ _ ih1 ih2 => exact fun hj => ih2 (ih1 hj)

def left (ops : Array Oper) (listed : Array Bool) : List Nat := (List.range ops.size).filter fun i => !listed.getD i true

theorem mem_deps {o : Oper} {d : Nat} : d ∈ deps o ↔ ∃ e ∈ o.after, Region.binds .any e = true ∧ e.on = d := by
  simp only [deps, List.mem_filterMap, Array.mem_toList_iff]
  constructor
  · rintro ⟨e, he, h⟩
    split at h
    · rename_i hb; injection h with h; exact ⟨e, he, hb, h⟩
    · cases h
  · rintro ⟨e, he, hb, h⟩
    exact ⟨e, he, by rw [if_pos hb, h]⟩

theorem ready_left {listed : Array Bool} {i : Nat} (h : i ∈ Region.ready .any ops listed) : i ∈ left ops listed ∧ ∀ o d, ops[i]? = some o → d ∈ deps o → listed.getD d false = true := by
  obtain ⟨hun, o, ho, hall⟩ := mem_ready.1 h
  have hlt : i < ops.size := (Array.getElem?_eq_some_iff.1 ho).1
  refine ⟨?_, fun o' d ho' hd => ?_⟩
  · simp only [left, List.mem_filter, List.mem_range]
    exact ⟨hlt, by rw [hun]; rfl⟩
  · rw [ho] at ho'
    injection ho' with ho'
    subst ho'
    obtain ⟨e, he, hb, hon⟩ := mem_deps.1 hd
    rw [← hon]
    exact hall e he hb

theorem left_set {listed : Array Bool} {i : Nat} (hsz : listed.size = ops.size) (hi : i < ops.size) : left ops (listed.setIfInBounds i true) = (left ops listed).filter fun j => j != i := by
  unfold left
  rw [List.filter_filter]
  apply List.filter_congr
  intro j hj
  by_cases hij : i = j
  · subst hij
    simp [Array.getD, hsz, hi]
  · have : (listed.setIfInBounds i true).getD j true = listed.getD j true := getD_set_ne true hij
    rw [this]
    have : (j != i) = true := by simp; omega
    rw [this, Bool.true_and]

theorem split_at_mem {L : List Nat} (hL : L.Pairwise (· < ·)) {i : Nat} (hi : i ∈ L) : ∃ pre post, L = pre ++ i :: post ∧ (∀ p ∈ pre, p < i) ∧ (L.filter fun j => j != i) = pre ++ post := by
  obtain ⟨pre, post, rfl⟩ := List.append_of_mem hi
  have hp := List.pairwise_append.1 hL
  have h1 : ∀ p ∈ pre, p < i := fun p hp' => hp.2.2 p hp' i (List.mem_cons_self ..)
  have h2 : ∀ p ∈ post, i < p := fun p hp' => (List.pairwise_cons.1 hp.2.1).1 p hp'
  refine ⟨pre, post, rfl, h1, ?_⟩
  rw [List.filter_append, List.filter_cons]
  have e : (i != i) = false := by simp
  rw [e]
  simp only [Bool.false_eq_true, if_false]
  congr 1
  · exact List.filter_eq_self.2 fun p hp' => by have := h1 p hp'; simp; omega
  · exact List.filter_eq_self.2 fun p hp' => by have := h2 p hp'; simp; omega

theorem any_of_sl {K : Act → World → Prop} {Q : Exit → Act → World → Prop} (hQ : ∀ a w, K a w → Q .normal a w) (hok : okOrder ops cl = true) : ∀ (fuel : Nat) (listed : Array Bool) (a : Act) (w : World),
    listed.size = ops.size → Closed ops listed → (left ops listed).length = fuel → sl b P ops cl K (left ops listed) a w → wpAny P .any ops Q fuel listed a w := by
  obtain ⟨hs, hd, hc⟩ := okOrder_spec hok
  have hpw : ∀ listed, (left ops listed).Pairwise (· < ·) := fun listed => List.Pairwise.filter _ List.pairwise_lt_range
  have hfirst : ∀ listed : Array Bool, listed.size = ops.size → Region.ready .any ops listed = [] → left ops listed = [] := fun listed hsz hr => by
    cases hL : left ops listed with
    | nil => rfl
    | cons m r =>
      exfalso
      have hm : m ∈ left ops listed := by rw [hL]; exact List.mem_cons_self ..
      have hm' := hm
      simp only [left, List.mem_filter, List.mem_range] at hm'
      have ho : ops[m]? = some ops[m] := Array.getElem?_eq_getElem hm'.1
      have : m ∈ Region.ready .any ops listed := mem_ready.2 ⟨by simpa using hm'.2, ops[m], ho, fun e he hb => by
        have hlt := hd m _ e.on ho (mem_deps.2 ⟨e, he, hb, rfl⟩)
        cases hl : listed.getD e.on false with
        | true => rfl
        | false =>
          exfalso
          have hin : e.on ∈ left ops listed := by
            simp only [left, List.mem_filter, List.mem_range]
            refine ⟨by omega, ?_⟩
            have : e.on < listed.size := by omega
            simp [Array.getD, this] at hl ⊢
            exact hl
          rw [hL] at hin
          have hp := hpw listed
          rw [hL] at hp
          rcases List.mem_cons.1 hin with h | h
          · omega
          · have := (List.pairwise_cons.1 hp).1 _ h
            omega⟩
      rw [hr] at this
      cases this
  intro fuel
  induction fuel with
  | zero =>
    intro listed a w hsz hcl hlen h
    have hL : left ops listed = [] := List.eq_nil_of_length_eq_zero hlen
    rw [hL] at h
    refine ⟨?_, hQ _ _ h⟩
    cases hr : Region.ready .any ops listed with
    | nil => rfl
    | cons i r =>
      have := (ready_left (ops := ops) (listed := listed) (i := i) (by rw [hr]; exact List.mem_cons_self ..)).1
      rw [hL] at this
      cases this
  | succ fuel ih =>
    intro listed a w hsz hcl hlen h
    refine ⟨fun hr => ?_, fun i hi => ?_⟩
    · have := hfirst listed hsz hr
      rw [this] at hlen
      cases hlen
    · obtain ⟨hiL, hdep⟩ := ready_left hi
      have hilt : i < ops.size := by have := hiL; simp only [left, List.mem_filter, List.mem_range] at this; exact this.1
      have hoi : ops[i]? = some ops[i] := Array.getElem?_eq_getElem hilt
      obtain ⟨pre, post, hL, hpre, hfil⟩ := split_at_mem (hpw listed) hiL
      have hset := left_set (ops := ops) (i := i) hsz hilt
      rw [hfil] at hset
      have hcomm : ∀ p ∈ pre, commi ops cl p i = true := fun p hp => by
        rcases hc p i (hpre p hp) hilt with h' | h'
        · exact h'
        · exfalso
          have hpL : p ∈ left ops listed := by rw [hL]; exact List.mem_append_left _ hp
          simp only [left, List.mem_filter, List.mem_range] at hpL
          have hpf : listed.getD p false = false := by
            have : p < listed.size := by omega
            have h2 := hpL.2
            simp [Array.getD, this] at h2 ⊢
            exact h2
          have hpt : listed.getD p false = true := by
            cases h' with
            | one ho hd' => exact hdep _ _ ho hd'
            | more h1 h2 =>
              have key : ∀ {j k : Nat}, Waits ops j k → j = i → listed.getD k false = true := fun {j k} hw => by
                induction hw with
                | one ho hd' => exact fun e => by subst e; exact hdep _ _ ho hd'
                | more _ h2' ih1 _ => exact fun e => hcl.waits h2' (ih1 e)
              exact hcl.waits h2 (key h1 rfl)
          rw [hpf] at hpt
          cases hpt
      rw [hL] at h
      have hfr := sl_front hs pre post a w hcomm h
      refine wpOp_of_sopi (sopi_mono (fun a' w' h' => ih (listed.setIfInBounds i true) a' w' (by simp [hsz]) ?_ ?_ ?_) hfr)
      · intro j o d ho hl hdj
        by_cases hij : i = j
        · subst hij
          exact getD_set_true (hdep o d ho hdj)
        · rw [getD_set_ne false hij] at hl
          exact getD_set_true (hcl j o d ho hl hdj)
      · rw [hset]
        rw [hL] at hlen
        simp only [List.length_append, List.length_cons] at hlen ⊢
        omega
      · rw [hset]
        exact h'

theorem wp_region_text {id : Nat} {K : Act → World → Prop} {Q : Exit → Act → World → Prop} {a : Act} {w : World} (hm : P.follows .mixedOrders = true) (hok : okOrder ops cl = true)
    (hQ : ∀ a w, K a w → Q .normal a w) (h : sl b P ops cl K (List.range ops.size) a w.drew) : (Code.region id ops true).wp P Q a w := by
  have hL : left ops (Array.replicate ops.size false) = List.range ops.size := by
    unfold left
    apply List.filter_eq_self.2
    intro i hi
    have := List.mem_range.1 hi
    simp [Array.getD, this]
  refine wp_region_any hm (any_of_sl (cl := cl) (b := b) hQ hok ops.size _ a _ (by simp) ?_ (by rw [hL, List.length_range]) (by rw [hL]; exact h))
  intro j o d ho hl
  rcases Nat.lt_or_ge j ops.size with h' | h'
  · simp [Array.getD, h'] at hl
  · simp [Array.getD, Nat.not_lt.2 h'] at hl

theorem wp_region_plain {id : Nat} {K : Act → World → Prop} {Q : Exit → Act → World → Prop} {a : Act} {w : World} (hQ : ∀ a w, K a w → Q .normal a w)
    (h : sl b P ops cl K (List.range ops.size) a w) : (Code.region id ops false).wp P Q a w := by
  refine wp_region ?_
  have key : ∀ (L : List Nat) (a : Act) (w : World), sl b P ops cl K L a w → wpOps P ops Q L a w := by
    intro L
    induction L with
    | nil => exact fun a w h => hQ a w h
    | cons i r ih =>
      intro a w h
      rw [wpOps_cons]
      exact wpOp_of_sopi (sopi_mono ih h)
  exact key _ a w h
end
end Go.V
