/- copy; a row written over in its midst. -/
import Derived.Test.YtobjkcmiicflmaaW1
set_option linter.unusedVariables false
set_option linter.unusedSimpArgs false
set_option linter.unusedSectionVars false
namespace Go.V
open Go

def overL {α : Type} (l : List α) (o : Nat) (m : List α) : List α := l.take o ++ m ++ l.drop (o + m.length)
theorem overL_length {α : Type} {l m : List α} {o : Nat} (h : o + m.length ≤ l.length) : (overL l o m).length = l.length := by simp [overL]; omega
theorem overL_get {α : Type} {l m : List α} {o : Nat} (h : o + m.length ≤ l.length) (j : Nat) : (overL l o m)[j]? = if o ≤ j ∧ j < o + m.length then m[j - o]? else l[j]? := by
  have hlt : (l.take o).length = o := by rw [List.length_take]; omega
  unfold overL
  by_cases h1 : j < o
  · rw [if_neg (by omega), List.append_assoc, List.getElem?_append_left (by omega), List.getElem?_take, if_pos h1]
  · by_cases h2 : j < o + m.length
    · rw [if_pos ⟨by omega, h2⟩, List.append_assoc, List.getElem?_append_right (by omega), hlt, List.getElem?_append_left (by omega)]
    · rw [if_neg (by omega), List.getElem?_append_right (by rw [List.length_append]; omega), List.length_append, hlt, List.getElem?_drop]
      congr 1; omega
theorem overL_flat {α : Type} {enc : α → List Value} {size : Nat} (henc : ∀ x, (enc x).length = size) (l m : List α) (o : Nat) : (overL l o m).flatMap enc = overL (l.flatMap enc) (o * size) (m.flatMap enc) := by
  unfold overL
  rw [List.flatMap_append, List.flatMap_append, flat_take henc, flat_length henc, ← Nat.add_mul, flat_drop henc]
theorem overL_all {α : Type} {l m : List α} (h : m.length = l.length) : overL l 0 m = m := by
  unfold overL
  rw [List.take_zero, List.nil_append, Nat.zero_add, h, List.drop_length, List.append_nil]

theorem Own.over {h h' : Heap} {base e size n cap g o : Nat} {xs vs : List Value} (ho : Own h base e size (.slice (some ⟨g, 0, none⟩) n cap) n xs) (q : Put h ⟨g, o, none⟩ vs h') (hl : o + vs.length ≤ n * size) :
    Own h' base e size (.slice (some ⟨g, 0, none⟩) n cap) n (overL xs o vs) := by
  have hxl := ho.1
  refine ⟨by rw [overL_length (by omega)]; exact hxl, ?_⟩
  rcases ho.2 with ⟨hv, _⟩ | ⟨g', cap', cur, hv, hb, hg, hnc, hm, hs, ht⟩
  · cases hv
  · injection hv with h1 h2 h3
    injection h1 with h1
    injection h1 with h1
    subst h1
    subst h3
    have hns : n * size ≤ cap * size := Nat.mul_le_mul_right _ hnc
    obtain ⟨cs', hb', hsz, hget⟩ := Blk.setRow (p := ⟨g, o, none⟩) (g := g) (t := e) rfl rfl vs 0 (h := h) (cs := cur) hg (by simp only; omega)
    refine .inr ⟨g, cap, cs', rfl, hb, by rw [q.is]; exact hb', hnc, hm, by rw [hsz, hs], ?_⟩
    apply List.ext_getElem?
    intro i
    rw [overL_get (by omega) i, ← ht]
    simp only [List.getElem?_take, Array.getElem?_toList]
    have hg' := hget i
    simp only [Nat.add_zero] at hg'
    rw [hg']
    by_cases h1 : o ≤ i ∧ i < o + vs.length
    · rw [if_pos h1, if_pos h1, if_pos (by omega)]
    · rw [if_neg h1, if_neg h1]
theorem Own.can {h : Heap} {base e size n cap g o m : Nat} {xs : List Value} (ho : Own h base e size (.slice (some ⟨g, 0, none⟩) n cap) n xs) (hm : o + m ≤ n * size) : Can h ⟨g, o, none⟩ m := by
  rcases ho.2 with ⟨hv, _⟩ | ⟨g', cap', cur, hv, hb, hg, hnc, _, hs, ht⟩
  · cases hv
  · injection hv with h1 h2 h3
    injection h1 with h1
    injection h1 with h1
    subst h1
    subst h3
    have hns : n * size ≤ cap * size := Nat.mul_le_mul_right _ hnc
    have hb' : Blk h g e cur := hg
    exact hb'.okAt (by omega)

section
variable {P : Program} [Tab P]
theorem copy_any {dT sT ty e es : Nat} {r : TRow} (ht : tr P dT = some r) (hts : r.ts = .slice e es) {h : Heap} {D S : Option Addr} {dn dc sn sc m : Nat} (hm : min sn dn = m) {vs : List Value} (hl : vs.length = m * es)
    (hsrc : m = 0 ∨ ∃ p, S = some p ∧ Row h p vs) (h1 : ∀ u ∈ vs, u.oneCell' = true) (hd : m = 0 ∨ ∃ d, D = some d ∧ Can h d (m * es)) {K : Value → Heap → Prop} (hK0 : m = 0 → K (.int .i64 0) h)
    (hK : ∀ d h', D = some d → Put h d vs h' → m ≠ 0 → K (.int .i64 (m : Int)) h') : RunsV P (Builtin.copy_ #[dT, sT] ty #[.slice D dn dc, .slice S sn sc]) h K := by
  refine ⟨fun w hw => ?_⟩
  subst hw
  obtain ⟨_, _, htt, _, _⟩ := tr_ok ht
  obtain ⟨hu, i, hi, hs⟩ := und_slice (htt.trans hts)
  have hm' : Nat.min sn dn = m := hm
  by_cases h0 : m = 0
  · subst h0
    have hz : ∀ (x : Addr), (loadCells x 0).run P w = .ok #[] w := fun x => by simpa using run_loadCells_list (P := P) w x [] (by simp)
    refine ⟨.int .i64 0, w, ?_, Keep.refl w, hK0 rfl⟩
    cases D <;> cases S <;> simp [Builtin.copy_, run_underlying hu, Builtin.lenOf, Builtin.firstCells, sizeOf, typeInfo, hi, hm', storeCells, hz] <;> rfl
  · rcases hsrc with h2 | ⟨p, rfl, hrow⟩
    · exact absurd h2 h0
    rcases hd with h2 | ⟨d, rfl, hcan⟩
    · exact absurd h2 h0
    have hc := run_loadCells_list (P := P) w p vs (fun j v hv => hrow j v hv)
    rw [hl] at hc
    obtain ⟨w', hrun, hk, hh⟩ := run_storeCells_row (P := P) d vs 0 w h1 (fun j _ hj => hcan j (by omega))
    refine ⟨.int .i64 (m : Int), w', ?_, hk, hK d w'.heap rfl ⟨hh⟩ h0⟩
    simp [Builtin.copy_, run_underlying hu, Builtin.lenOf, Builtin.firstCells, sizeOf, typeInfo, hi, hm', hs, hc, hrun]
    rfl

/-- copy into a slice of the call's own, from its cell o on. -/
theorem copy_own {dT sT ty e es : Nat} {r : TRow} (ht : tr P dT = some r) (hts : r.ts = .slice e es) {h : Heap} {base n o : Nat} {v : Value} {xs : List Value} (ho : Own h base e es v n xs) {D S : Option Addr} {dn dc sn sc m : Nat} (hm : min sn dn = m)
    (hD : m = 0 ∨ ∃ g N C, v = .slice (some ⟨g, 0, none⟩) N C ∧ D = some ⟨g, o, none⟩) (hfit : m = 0 ∨ o + m * es ≤ n * es) {vs : List Value} (hl : vs.length = m * es)
    (hsrc : m = 0 ∨ ∃ p, S = some p ∧ Row h p vs) (h1 : ∀ u ∈ vs, u.oneCell' = true) {K : Value → Heap → Prop}
    (hK : ∀ h', Own h' base e es v n (overL xs o vs) → Chg (fun k => v.ownBlock = some k) h h' → K (.int .i64 (m : Int)) h') : RunsV P (Builtin.copy_ #[dT, sT] ty #[.slice D dn dc, .slice S sn sc]) h K := by
  have hcase : (m = 0 → K (.int .i64 (m : Int)) h) := fun h0 => by
    have hv : vs = [] := List.eq_nil_of_length_eq_zero (by rw [hl, h0, Nat.zero_mul])
    subst hv
    exact hK h (by simpa [overL] using ho) (Chg.refl _ _)
  by_cases h0 : m = 0
  · refine copy_any (vs := vs) ht hts hm hl hsrc h1 (.inl h0) (fun _ => by have := hcase h0; rwa [h0] at this) (fun d h' _ _ hne => absurd h0 hne)
  · rcases hD with h2 | ⟨g, N, C, rfl, rfl⟩
    · exact absurd h2 h0
    rcases hfit with h2 | hfit
    · exact absurd h2 h0
    obtain ⟨b, c, e1, hnc⟩ := ho.slice
    injection e1 with e1 e2 e3
    subst e2
    refine copy_any (vs := vs) ht hts hm hl hsrc h1 (.inr ⟨_, rfl, ho.can hfit⟩) (fun h2 => absurd h2 h0) fun d h' hd p _ => ?_
    injection hd with hd
    subst hd
    exact hK h' (ho.over p (by rw [hl]; exact hfit)) (p.chg.mono fun k _ hk => by rw [hk]; rfl)
end
end Go.V
