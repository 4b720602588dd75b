/- A drawn region in which one pair of neighbours may come in either order. -/
import Derived.Test.YtobjkcmiicflmaaV4
set_option linter.unusedVariables false
set_option linter.unusedSimpArgs false
set_option linter.unusedSectionVars false
namespace Go.V
open Go

section
variable {b : Nat → Prop} {P : Program} {ops : Array Oper} {cl : Oper → Cls}
def okOne2 (ops : Array Oper) (cl : Oper → Cls) (an : Array (List Nat)) (q : Nat) (j : Nat) : Bool :=
  (match ops[j]? with | some o => (deps o).all fun d => Nat.blt d j | none => true) &&
  (bif Nat.blt (q + 1) j then (an.getD j []).contains q && (an.getD j []).contains (q + 1) else true) && (List.range j).all fun i => (Nat.beq i q && Nat.beq j (q + 1)) || (commi ops cl i j || (an.getD j []).contains i)
def okOrder2 (ops : Array Oper) (cl : Oper → Cls) (q : Nat) : Bool := Region.noSelect ops && (List.range ops.size).all fun j => okOne2 ops cl (anc ops) q j
theorem okOrder2_spec {q : Nat} (h : okOrder2 ops cl q = true) : Region.noSelect ops = true ∧ (∀ j o d, ops[j]? = some o → d ∈ deps o → d < j) ∧ (∀ i j, i < j → j < ops.size → (i = q ∧ j = q + 1) ∨ commi ops cl i j = true ∨ Waits ops j i) ∧ (∀ j, q + 1 < j → j < ops.size → Waits ops j q) := by
  simp only [okOrder2, Bool.and_eq_true] at h
  obtain ⟨hs, hall⟩ := h
  have hj : ∀ j, j < ops.size → okOne2 ops cl (anc ops) q j = true := fun j hj => (List.all_eq_true.1 hall) j (List.mem_range.2 hj)
  refine ⟨hs, fun j o d ho hd => ?_, fun i j hij hjs => ?_, fun j hqj hjs => ?_⟩
  · have h1 := hj j (Array.getElem?_eq_some_iff.1 ho).1
    simp only [okOne2, ho, Bool.and_eq_true] at h1
    have := (List.all_eq_true.1 h1.1.1) d hd
    simpa [Nat.blt_eq] using this
  · have h1 := hj j hjs
    simp only [okOne2, Bool.and_eq_true] at h1
    have h2 := (List.all_eq_true.1 h1.2) i (List.mem_range.2 hij)
    rw [Bool.or_eq_true, Bool.or_eq_true] at h2
    rcases h2 with h | h | h
    · left
      rw [Bool.and_eq_true] at h
      exact ⟨Nat.eq_of_beq_eq_true h.1, Nat.eq_of_beq_eq_true h.2⟩
    · exact .inr (.inl h)
    · exact .inr (.inr (anc_spec (by simpa using h)))
  · have h1 := hj j hjs
    simp only [okOne2, Bool.and_eq_true] at h1
    have h2 := h1.1.2
    have e : Nat.blt (q + 1) j = true := by simpa [Nat.blt_eq] using hqj
    rw [e] at h2
    simp only [cond_true, Bool.and_eq_true] at h2
    exact anc_spec (by simpa using h2.1)

theorem sl_append {K : Act → World → Prop} : ∀ (L1 L2 : List Nat) (a : Act) (w : World), sl b P ops cl K (L1 ++ L2) a w ↔ sl b P ops cl (sl b P ops cl K L2) L1 a w
  | [], _, _, _ => Iff.rfl
  | i :: r, L2, a, w => ⟨fun h => sopi_mono (fun a w h => (sl_append r L2 a w).1 h) h, fun h => sopi_mono (fun a w h => (sl_append r L2 a w).2 h) h⟩
theorem sl_mono {K K' : Act → World → Prop} (hK : ∀ a w, K a w → K' a w) : ∀ (L : List Nat) (a : Act) (w : World), sl b P ops cl K L a w → sl b P ops cl K' L a w
  | [], a, w, h => hK a w h
  | i :: r, a, w, h => sopi_mono (fun a w h => sl_mono hK r a w h) h

theorem pair_of_mem {L : List Nat} {q : Nat} (hp : L.Pairwise (· < ·)) (h1 : q ∈ L) (h2 : q + 1 ∈ L) : ∃ pre post, L = pre ++ q :: (q + 1) :: post := by
  obtain ⟨pre, post, rfl⟩ := List.append_of_mem h1
  have hpa := List.pairwise_append.1 hp
  have h3 : q + 1 ∈ post := by
    rcases List.mem_append.1 h2 with h | h
    · have := hpa.2.2 (q + 1) h q (List.mem_cons_self ..); omega
    · rcases List.mem_cons.1 h with h | h
      · omega
      · exact h
  cases post with
  | nil => cases h3
  | cons x r =>
    have hx : x = q + 1 := by
      have h4 := (List.pairwise_cons.1 hpa.2.1).1 x (List.mem_cons_self ..)
      rcases List.mem_cons.1 h3 with h | h
      · exact h.symm
      · have := (List.pairwise_cons.1 (List.pairwise_cons.1 hpa.2.1).2).1 _ h; omega
    exact ⟨pre, r, by rw [hx]⟩

theorem any_of_sl2 {K : Act → World → Prop} {Q : Exit → Act → World → Prop} {q : Nat} (hQ : ∀ a w, K a w → Q .normal a w) (hok : okOrder2 ops cl q = true) : ∀ (fuel : Nat) (listed : Array Bool) (a : Act) (w : World),
    listed.size = ops.size → Closed ops listed → (left ops listed).length = fuel → ((¬ ∃ pre post, left ops listed = pre ++ q :: (q + 1) :: post) → sl b P ops cl K (left ops listed) a w) →
    (∀ pre post, left ops listed = pre ++ q :: (q + 1) :: post → sl b P ops cl (fun a w => sl b P ops cl K (q :: (q + 1) :: post) a w ∧ sl b P ops cl K ((q + 1) :: q :: post) a w) pre a w) → wpAny P .any ops Q fuel listed a w := by
  obtain ⟨hs, hd, hc, hw⟩ := okOrder2_spec hok
  have hpw : ∀ listed, (left ops listed).Pairwise (· < ·) := fun listed => List.Pairwise.filter _ List.pairwise_lt_range
  have hfirst : ∀ listed : Array Bool, listed.size = ops.size → Region.ready .any ops listed = [] → left ops listed = [] := fun listed hsz hr => by
    cases hL : left ops listed with
    | nil => rfl
    | cons m r =>
      exfalso
      have hm : m ∈ left ops listed := by rw [hL]; exact List.mem_cons_self ..
      have hm' := hm
      simp only [left, List.mem_filter, List.mem_range] at hm'
      have ho : ops[m]? = some ops[m] := Array.getElem?_eq_getElem hm'.1
      have : m ∈ Region.ready .any ops listed := mem_ready.2 ⟨by simpa using hm'.2, ops[m], ho, fun e he hb => by
        have hlt := hd m _ e.on ho (mem_deps.2 ⟨e, he, hb, rfl⟩)
        cases hl : listed.getD e.on false with
        | true => rfl
        | false =>
          exfalso
          have hin : e.on ∈ left ops listed := by
            simp only [left, List.mem_filter, List.mem_range]
            refine ⟨by omega, ?_⟩
            have : e.on < listed.size := by omega
            simp [Array.getD, this] at hl ⊢
            exact hl
          rw [hL] at hin
          have hp := hpw listed
          rw [hL] at hp
          rcases List.mem_cons.1 hin with h | h
          · omega
          · have := (List.pairwise_cons.1 hp).1 _ h
            omega⟩
      rw [hr] at this
      cases this
  intro fuel
  induction fuel with
  | zero =>
    intro listed a w hsz hcl hlen h _
    have hL : left ops listed = [] := List.eq_nil_of_length_eq_zero hlen
    rw [hL] at h
    refine ⟨?_, hQ _ _ (h (by rintro ⟨pre, post, e⟩; cases pre <;> cases e))⟩
    cases hr : Region.ready .any ops listed with
    | nil => rfl
    | cons i r =>
      have := (ready_left (ops := ops) (listed := listed) (i := i) (by rw [hr]; exact List.mem_cons_self ..)).1
      rw [hL] at this
      cases this
  | succ fuel ih =>
    intro listed a w hsz hcl hlen h h2
    refine ⟨fun hr => ?_, fun i hi => ?_⟩
    · have := hfirst listed hsz hr
      rw [this] at hlen
      cases hlen
    · obtain ⟨hiL, hdep⟩ := ready_left hi
      have hilt : i < ops.size := by have := hiL; simp only [left, List.mem_filter, List.mem_range] at this; exact this.1
      have hoi : ops[i]? = some ops[i] := Array.getElem?_eq_getElem hilt
      obtain ⟨pre, post, hL, hpre, hfil⟩ := split_at_mem (hpw listed) hiL
      have hset := left_set (ops := ops) (i := i) hsz hilt
      rw [hfil] at hset
      have hpwL := hpw listed
      rw [hL] at hpwL
      have hcomm : ∀ p ∈ pre, (p = q ∧ i = q + 1) ∨ commi ops cl p i = true := fun p hp => by
        rcases hc p i (hpre p hp) hilt with h' | h' | h'
        · exact .inl h'
        · exact .inr h'
        · exfalso
          have hpL : p ∈ left ops listed := by rw [hL]; exact List.mem_append_left _ hp
          simp only [left, List.mem_filter, List.mem_range] at hpL
          have hpf : listed.getD p false = false := by
            have : p < listed.size := by omega
            have h2 := hpL.2
            simp [Array.getD, this] at h2 ⊢
            exact h2
          have hpt : listed.getD p false = true := by
            cases h' with
            | one ho hd' => exact hdep _ _ ho hd'
            | more h1 h2 =>
              have key : ∀ {j k : Nat}, Waits ops j k → j = i → listed.getD k false = true := fun {j k} hw => by
                induction hw with
                | one ho hd' => exact fun e => by subst e; exact hdep _ _ ho hd'
                | more _ h2' ih1 _ => exact fun e => hcl.waits h2' (ih1 e)
              exact hcl.waits h2 (key h1 rfl)
          rw [hpf] at hpt
          cases hpt
      have closed' : Closed ops (listed.setIfInBounds i true) := by
        intro j o d ho hl hdj
        by_cases hij : i = j
        · subst hij
          exact getD_set_true (hdep o d ho hdj)
        · rw [getD_set_ne false hij] at hl
          exact getD_set_true (hcl j o d ho hl hdj)
      have hlen' : (left ops (listed.setIfInBounds i true)).length = fuel := by
        rw [hset]
        rw [hL] at hlen
        simp only [List.length_append, List.length_cons] at hlen ⊢
        omega
      by_cases hpair : ∃ p1 p2, left ops listed = p1 ++ q :: (q + 1) :: p2
      · obtain ⟨p1, p2, hL2⟩ := hpair
        have hK := h2 p1 p2 hL2
        have hq2 : q ∈ left ops listed := by rw [hL2]; simp
        have hqf : listed.getD q false = false := by
          simp only [left, List.mem_filter, List.mem_range] at hq2
          have h3 := hq2.2
          have : q < listed.size := by omega
          simp [Array.getD, this] at h3 ⊢
          exact h3
        have hpwL2 := hpw listed
        rw [hL2] at hpwL2
        have hp1 : ∀ p ∈ p1, p < q := fun p hp => (List.pairwise_append.1 hpwL2).2.2 p hp q (List.mem_cons_self ..)
        have hiL2 := hiL
        rw [hL2] at hiL2
        rcases List.mem_append.1 hiL2 with him | him
        · -- one ahead of the pair
          obtain ⟨r1, r2, e1, hr1, hf1⟩ := split_at_mem ((List.pairwise_append.1 hpwL2).1) him
          have hmv := sl_front (i := i) hs r1 r2 a w (fun p hp => (hcomm p ?_).resolve_left fun e => ?_) (by rw [← e1]; exact hK)
          rotate_left
          · have : p ∈ left ops listed := by rw [hL2, e1]; simp [hp]
            rw [hL] at this
            rcases List.mem_append.1 this with h3 | h3
            · exact h3
            · exfalso
              have h4 := hr1 p hp
              rcases List.mem_cons.1 h3 with h5 | h5
              · omega
              · have := (List.pairwise_cons.1 (List.pairwise_append.1 hpwL).2.1).1 p h5
                omega
          · have := hp1 i him
            omega
          have hnew : left ops (listed.setIfInBounds i true) = (r1 ++ r2) ++ q :: (q + 1) :: p2 := by
            rw [left_set hsz hilt, hL2, List.filter_append, hf1]
            congr 1
            refine List.filter_eq_self.2 fun p hp => ?_
            have h3 := hp1 i him
            have h4 := (List.pairwise_append.1 hpwL2).2.2 i him p hp
            simp; omega
          refine wpOp_of_sopi (sopi_mono (fun a' w' h' => ih (listed.setIfInBounds i true) a' w' (by simp [hsz]) closed' hlen' (fun hno => absurd ⟨_, _, hnew⟩ hno) fun pre' post' e => ?_) hmv)
          have hu : pre' = r1 ++ r2 ∧ post' = p2 := by
            have hpw' := hpw (listed.setIfInBounds i true)
            rw [hnew] at e hpw'
            have key : ∀ (x y x' y' : List Nat), (x ++ q :: (q + 1) :: y).Pairwise (· < ·) → x ++ q :: (q + 1) :: y = x' ++ q :: (q + 1) :: y' → x' = x ∧ y' = y := by
              intro x
              induction x with
              | nil =>
                intro y x' y' hp e
                cases x' with
                | nil => simp at e; exact ⟨rfl, e.symm⟩
                | cons z x' =>
                  exfalso
                  simp only [List.nil_append, List.cons_append, List.cons.injEq] at e
                  have h5 := (List.pairwise_cons.1 hp).1 q (by rw [e.2]; simp)
                  omega
              | cons z x ihx =>
                intro y x' y' hp e
                cases x' with
                | nil =>
                  exfalso
                  simp only [List.nil_append, List.cons_append, List.cons.injEq] at e
                  have h5 := (List.pairwise_cons.1 hp).1 q (by simp)
                  omega
                | cons z' x' =>
                  simp only [List.cons_append, List.cons.injEq] at e
                  obtain ⟨e1, e2⟩ := e
                  obtain ⟨h6, h7⟩ := ihx y x' y' (List.pairwise_cons.1 hp).2 e2
                  exact ⟨by rw [e1, h6], h7⟩
            exact key _ _ _ _ hpw' e
          rw [hu.1, hu.2]
          exact h'
        · rcases List.mem_cons.1 him with hiq | him
          · subst hiq
            have hcm : ∀ p ∈ p1, commi ops cl p i = true := fun p hp => (hcomm p (by
              have : p ∈ left ops listed := by rw [hL2]; simp [hp]
              rw [hL] at this
              rcases List.mem_append.1 this with h3 | h3
              · exact h3
              · exfalso
                have h4 := hp1 p hp
                rcases List.mem_cons.1 h3 with h5 | h5
                · omega
                · have := (List.pairwise_cons.1 (List.pairwise_append.1 hpwL).2.1).1 p h5; omega)).resolve_left fun e => by have := hp1 p hp; omega
            have hmv := sl_front (i := i) hs p1 ((i + 1) :: p2) a w hcm ((sl_append _ _ _ _).2 (sl_mono (fun a w h => h.1) _ _ _ hK))
            have hnew : left ops (listed.setIfInBounds i true) = p1 ++ (i + 1) :: p2 := by
              rw [left_set hsz hilt, hL2, List.filter_append, List.filter_cons]
              have e : (i != i) = false := by simp
              rw [e]
              simp only [Bool.false_eq_true, if_false]
              congr 1
              · exact List.filter_eq_self.2 fun p hp => by have := hp1 p hp; simp; omega
              · refine List.filter_eq_self.2 fun p hp => ?_
                have := (List.pairwise_cons.1 (List.pairwise_append.1 hpwL2).2.1).1 p hp
                simp; omega
            have hnq : i ∉ left ops (listed.setIfInBounds i true) := by rw [left_set hsz hilt]; simp
            refine wpOp_of_sopi (sopi_mono (fun a' w' h' => ih (listed.setIfInBounds i true) a' w' (by simp [hsz]) closed' hlen' (fun _ => by rw [hnew]; exact h') fun pre' post' e => ?_) hmv)
            exact absurd (by rw [e]; simp) hnq
          · rcases List.mem_cons.1 him with hiq | him
            · subst hiq
              have hcm : ∀ p ∈ p1, commi ops cl p (q + 1) = true := fun p hp => (hcomm p (by
                have : p ∈ left ops listed := by rw [hL2]; simp [hp]
                rw [hL] at this
                rcases List.mem_append.1 this with h3 | h3
                · exact h3
                · exfalso
                  have h4 := hp1 p hp
                  rcases List.mem_cons.1 h3 with h5 | h5
                  · omega
                  · have := (List.pairwise_cons.1 (List.pairwise_append.1 hpwL).2.1).1 p h5; omega)).resolve_left fun e => by have := hp1 p hp; omega
              have hmv := sl_front (i := q + 1) hs p1 (q :: p2) a w hcm ((sl_append _ _ _ _).2 (sl_mono (fun a w h => h.2) _ _ _ hK))
              have hnew : left ops (listed.setIfInBounds (q + 1) true) = p1 ++ q :: p2 := by
                rw [left_set hsz hilt, hL2, List.filter_append, List.filter_cons, List.filter_cons]
                have e : (q + 1 != q + 1) = false := by simp
                have e' : (q != q + 1) = true := by simp
                rw [e, e']
                simp only [Bool.false_eq_true, if_false, if_true]
                congr 1
                · exact List.filter_eq_self.2 fun p hp => by have := hp1 p hp; simp; omega
                · congr 1
                  refine List.filter_eq_self.2 fun p hp => ?_
                  have := (List.pairwise_cons.1 (List.pairwise_cons.1 (List.pairwise_append.1 hpwL2).2.1).2).1 p hp
                  simp; omega
              have hnq : q + 1 ∉ left ops (listed.setIfInBounds (q + 1) true) := by rw [left_set hsz hilt]; simp
              refine wpOp_of_sopi (sopi_mono (fun a' w' h' => ih (listed.setIfInBounds (q + 1) true) a' w' (by simp [hsz]) closed' hlen' (fun _ => by rw [hnew]; exact h') fun pre' post' e => ?_) hmv)
              exact absurd (by rw [e]; simp) hnq
            · exfalso
              have h3 : q + 1 < i := (List.pairwise_cons.1 (List.pairwise_cons.1 (List.pairwise_append.1 hpwL2).2.1).2).1 i him
              have h4 := hw i h3 hilt
              have h5 : listed.getD q false = true := by
                cases h4 with
                | one ho hd' => exact hdep _ _ ho hd'
                | more g1 g2 =>
                  have key : ∀ {j k : Nat}, Waits ops j k → j = i → listed.getD k false = true := fun {j k} hw => by
                    induction hw with
                    | one ho hd' => exact fun e => by subst e; exact hdep _ _ ho hd'
                    | more _ h2' ih1 _ => exact fun e => hcl.waits h2' (ih1 e)
                  exact hcl.waits g2 (key g1 rfl)
              rw [hqf] at h5
              cases h5
      · have hsl := h hpair
        rw [hL] at hsl
        have hmv := sl_front (i := i) hs pre post a w (fun p hp => (hcomm p hp).resolve_left fun e => hpair (by
          obtain ⟨rfl, rfl⟩ := e
          exact pair_of_mem (hpw listed) (by rw [hL]; simp [hp]) hiL)) hsl
        refine wpOp_of_sopi (sopi_mono (fun a' w' h' => ih (listed.setIfInBounds i true) a' w' (by simp [hsz]) closed' hlen' (fun _ => by rw [hset]; exact h') fun pre' post' e => ?_) hmv)
        exfalso
        rw [left_set hsz hilt] at e
        have m1 : q ∈ (left ops listed).filter fun j => j != i := by rw [e]; simp
        have m2 : q + 1 ∈ (left ops listed).filter fun j => j != i := by rw [e]; simp
        exact hpair (pair_of_mem (hpw listed) (List.mem_filter.1 m1).1 (List.mem_filter.1 m2).1)

theorem wp_region_text2 {id q : Nat} {K : Act → World → Prop} {Q : Exit → Act → World → Prop} {a : Act} {w : World} (hm : P.follows .mixedOrders = true) (hok : okOrder2 ops cl q = true) (hq : q + 1 < ops.size)
    (hQ : ∀ a w, K a w → Q .normal a w) (h : sl b P ops cl (fun a w => sl b P ops cl K (q :: (q + 1) :: List.range' (q + 2) (ops.size - (q + 2))) a w ∧ sl b P ops cl K ((q + 1) :: q :: List.range' (q + 2) (ops.size - (q + 2))) a w) (List.range q) a w.drew) : (Code.region id ops true).wp P Q a w := by
  have hL : left ops (Array.replicate ops.size false) = List.range ops.size := by
    unfold left
    apply List.filter_eq_self.2
    intro i hi
    have := List.mem_range.1 hi
    simp [Array.getD, this]
  have hR : List.range ops.size = List.range q ++ q :: (q + 1) :: List.range' (q + 2) (ops.size - (q + 2)) := by
    have e : ops.size = q + ((ops.size - (q + 2)) + 1 + 1) := by omega
    rw [List.range_eq_range', List.range_eq_range']
    have h1 : List.range' 0 ops.size = List.range' 0 q ++ List.range' q ((ops.size - (q + 2)) + 1 + 1) := by
      conv => lhs; rw [e]
      rw [← List.range'_append_1]
      simp
    rw [h1]
    rw [List.range'_succ, List.range'_succ]
  refine wp_region_any hm (any_of_sl2 (cl := cl) (b := b) hQ hok ops.size _ a _ (by simp) ?_ (by rw [hL, List.length_range]) (fun hno => absurd ⟨_, _, by rw [hL]; exact hR⟩ hno) fun pre post e => ?_)
  · intro j o d ho hl
    rcases Nat.lt_or_ge j ops.size with h' | h'
    · simp [Array.getD, h'] at hl
    · simp [Array.getD, Nat.not_lt.2 h'] at hl
  · rw [hL, hR] at e
    have hl : pre.length = q := by
      have h1 : (pre ++ q :: (q + 1) :: post)[pre.length]? = some q := by simp
      rw [← e, ← hR] at h1
      have h2 : pre.length < ops.size := by
        have := (List.getElem?_eq_some_iff.1 h1).1
        simpa using this
      rw [List.getElem?_range h2] at h1
      injection h1
    have hp := List.append_inj e (by rw [List.length_range, hl])
    have hp2 := hp.2
    simp only [List.cons.injEq, true_and] at hp2
    rw [← hp.1, ← hp2]
    exact h
end

section
variable {P : Program} [Tab P]
theorem vlist_slL {n : Nat} {wy : Way} {ops : Array Oper} {K : Env → Heap → Prop} {w0 : World} (hd : dstsB n ops.toList = true) {Kw : Act → World → Prop} (hKw : ∀ e a w, Rep n e a → Keep w0 w → K e w.heap → Kw a w) :
    ∀ (L : List Nat) (l : List Oper) (e : Env) (a : Act) (w : World), (L.map fun i => ops[i]?) = l.map some → Rep n e a → Keep w0 w → vlist P wy n ops.toList K l e w.heap →
      sl wy.bound P ops (clsOf P wy.kind wy.slots) Kw L a w
  | [], [], e, a, w, _, hr, hk, h => hKw e a w hr hk h
  | [], _ :: _, _, _, _, hl, _, _, _ => by cases hl
  | _ :: _, [], _, _, _, hl, _, _, _ => by cases hl
  | k :: L, o :: r, e, a, w, hl, hr, hk, h => by
    simp only [List.map_cons, List.cons.injEq] at hl
    obtain ⟨ho, hl'⟩ := hl
    have hdo : ∀ d, o.dst = some d → d < n := fun d hod => by
      have hm : o ∈ ops.toList := by
        obtain ⟨hlt, he⟩ := Array.getElem?_eq_some_iff.1 ho
        rw [← he]; exact Array.mem_toList_iff.2 (Array.getElem_mem hlt)
      have := (List.all_eq_true.1 hd) o hm
      simp only [hod] at this
      simpa [Nat.blt_eq] using this
    simp only [sl, sopi, ho]
    simp only [vlist] at h
    unfold sop cont
    split at h <;> try exact h.elim
    · rename_i hw
      rw [if_pos (wantedE_eq hr hw)]
      unfold vop at h
      split <;> rename_i hc <;> simp only [hc] at h
      · obtain ⟨v, hy, hF⟩ := vpure_run hr h
        exact ⟨v, hy, vlist_slL hd hKw L r _ _ w hl' (hr.put o.dst v hdo) hk hF⟩
      · obtain ⟨v, hy, hF⟩ := vold_run hr h
        exact ⟨v, hy, vlist_slL hd hKw L r _ _ w hl' (hr.put o.dst v hdo) hk hF⟩
      · obtain ⟨v, hy, hF⟩ := vread_run hr h
        exact ⟨v, hy, fun w' hs => vlist_slL hd hKw L r _ _ w' hl' (hr.put o.dst v hdo) (hk.trans hs.2) (by rw [hs.1]; exact hF)⟩
      · exact (veff_run hr h).mono fun v w' ⟨hk', ha, hF⟩ => ⟨ha, vlist_slL hd hKw L r _ _ w' hl' (hr.put o.dst v hdo) (hk.trans hk') hF⟩
      · exact (veff_run hr h).mono fun v w' ⟨hk', hF⟩ => vlist_slL hd hKw L r _ _ w' hl' (hr.put o.dst v hdo) (hk.trans hk') hF
    · rename_i hw
      rw [if_neg (by rw [wantedE_eq hr hw]; simp)]
      exact vlist_slL hd hKw L r _ _ w hl' (hr.put o.dst undef hdo) hk h

def swapHd {α : Type} : List α → List α
  | x :: y :: r => y :: x :: r
  | l => l
/-- A region whose order is open; operations q and q + 1 may come in either order, all later ones wait for both. -/
theorem Sat.drawn2 {n : Nat} {Q : Exit → Env → Heap → Prop} {e : Env} {h : Heap} (wy : Way) (q : Nat) {id : Nat} {ops : Array Oper} (hd : dstsB n ops.toList = true) (hok : okOrder2 ops (clsOf P wy.kind wy.slots) q = true) (hq : Nat.blt (q + 1) ops.size = true)
    (hs : vlist P wy n ops.toList (fun e h => vlist P wy n ops.toList (fun e h => Q .normal e h) (ops.toList.drop q) e h ∧ vlist P wy n ops.toList (fun e h => Q .normal e h) (swapHd (ops.toList.drop q)) e h) (ops.toList.take q) e h) :
    Sat P n (.region id ops true) Q e h := fun a w hr hw => by
  subst hw
  have hq' : q + 1 < ops.size := by simpa [Nat.blt_eq] using hq
  have hdr : ops.toList.drop q = ops[q] :: ops[q + 1] :: ops.toList.drop (q + 2) := by
    rw [List.drop_eq_getElem_cons (by simp; omega), List.drop_eq_getElem_cons (by simp; omega)]
    simp
  have hrest : ((List.range' (q + 2) (ops.size - (q + 2))).map fun i => ops[i]?) = (ops.toList.drop (q + 2)).map some := by
    apply List.ext_getElem?
    intro j
    simp only [List.getElem?_map, List.getElem?_drop, Array.getElem?_toList]
    by_cases hj : j < ops.size - (q + 2)
    · rw [List.getElem?_range' hj]
      have : q + 2 + j < ops.size := by omega
      simp [this]
    · rw [List.getElem?_eq_none (by simp; omega), Array.getElem?_eq_none (by omega)]
      rfl
  have hpre : ((List.range q).map fun i => ops[i]?) = (ops.toList.take q).map some := by
    apply List.ext_getElem?
    intro j
    simp only [List.getElem?_map, List.getElem?_take, Array.getElem?_toList]
    by_cases hj : j < q
    · rw [List.getElem?_range hj, if_pos hj]
      have : j < ops.size := by omega
      simp [this]
    · rw [List.getElem?_eq_none (by simp; omega), if_neg hj]
      rfl
  refine wp_region_text2 (b := wy.bound) (cl := clsOf P wy.kind wy.slots) (q := q) (K := fun a' w' => ∃ e', Rep n e' a' ∧ Keep w w' ∧ Q .normal e' w'.heap) (Tab.mixed) hok hq' (fun a' w' h => h) ?_
  refine vlist_slL (w0 := w) hd ?_ (List.range q) (ops.toList.take q) e a w.drew hpre hr (Keep.refl w) hs
  rintro e1 a1 w1 hr1 hk1 ⟨h1, h2⟩
  rw [hdr] at h1 h2
  refine ⟨vlist_slL (w0 := w) hd (fun e a w hr hk h => ⟨e, hr, hk, h⟩) _ _ e1 a1 w1 ?_ hr1 hk1 h1, vlist_slL (w0 := w) hd (fun e a w hr hk h => ⟨e, hr, hk, h⟩) _ _ e1 a1 w1 ?_ hr1 hk1 h2⟩
  · simp only [List.map_cons, hrest]
    rw [Array.getElem?_eq_getElem (by omega), Array.getElem?_eq_getElem (by omega)]
  · simp only [List.map_cons, hrest]
    rw [Array.getElem?_eq_getElem (by omega), Array.getElem?_eq_getElem (by omega)]
    rfl
end
end Go.V
