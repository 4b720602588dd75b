/- container/heap over any value whose methods keep a list: down, Pop, Init; Less may make memory. -/
import Derived.Test.YtobjkcmiicflmaaV5
import Derived.Test.YtobjkcmiicflmaaH4
import Derived.Test.YtobjkcmiicflmaaTab
set_option maxRecDepth 100000
set_option linter.unusedVariables false
namespace Go.Proofs.Ytobjkcmiicflmaa
open Go Go.V Go.V.Heaps

/-- A method, called on an interface value. -/
def Inv (t : TypeId) (v : Value) (name : String) (args : List Value) (h : Heap) (R : Value → Heap → Prop) : Prop :=
  ∃ g rcv, (∀ w : World, w.heap = h → (method (Try.prog.types.size + Made.depth) t v name).run Try.prog w = .ok (g, rcv) w) ∧ FnS Try.prog g (rcv :: args) h R
theorem fuel_succ : ∃ n, Try.prog.types.size + Made.depth = n + 1 := by
  have h : 0 < Made.depth := by decide
  exact ⟨Try.prog.types.size + (Made.depth - 1), by omega⟩
theorem nilchk_some (t : TypeId) (p : Addr) (nm : String) : Builtin.ssaWrapNilChk_ #[t] t #[.pointer (some p), strVal "", strVal nm] = pure (.pointer (some p)) := rfl
/-- A method with a pointer receiver. -/
theorem inv_ptr {t e : TypeId} {name : String} {f : FuncId} (hm : ((Try.prog.info? t).map fun i => (i.methods.find? (·.name == name)).map fun m => (m.path, m.func)) = some (some (#[], some (f, true)))) (hu : Try.prog.underlying t = some (.pointer e))
    {v : Value} {args : List Value} {h : Heap} {R : Value → Heap → Prop} (hf : FnS Try.prog f (v :: args) h R) : Inv t v name args h R := by
  refine ⟨f, v, fun w hw => ?_, hf⟩
  obtain ⟨n, hn⟩ := fuel_succ
  rw [hn]
  cases hi : Try.prog.info? t with
  | none => simp [hi] at hm
  | some i =>
    simp only [hi, Option.map_some, Option.some.injEq] at hm
    cases hf' : i.methods.find? (·.name == name) with
    | none => rw [hf'] at hm; cases hm
    | some m =>
      rw [hf'] at hm
      simp only [Option.map_some, Option.some.injEq, Prod.mk.injEq] at hm
      obtain ⟨h1, h2⟩ := hm
      simp [method, typeInfo, hi, hf', h1, h2, follow, receiverAt, run_underlying hu, Place.get]
/-- A method with a value receiver, called on a pointer. -/
theorem inv_val {t e : TypeId} {name : String} {f : FuncId} (hm : ((Try.prog.info? t).map fun i => (i.methods.find? (·.name == name)).map fun m => (m.path, m.func)) = some (some (#[], some (f, false)))) (hu : Try.prog.underlying t = some (.pointer e))
    {p : Addr} {v : Value} {args : List Value} {h : Heap} {R : Value → Heap → Prop} (hv : vload Try.prog e p h fun u => u = v) (hf : FnS Try.prog f (v :: args) h R) : Inv t (.pointer (some p)) name args h R := by
  refine ⟨f, v, fun w hw => ?_, hf⟩
  obtain ⟨u, rfl, hl⟩ := vload_run hv
  obtain ⟨n, hn⟩ := fuel_succ
  rw [hn]
  cases hi : Try.prog.info? t with
  | none => simp [hi] at hm
  | some i =>
    simp only [hi, Option.map_some, Option.some.injEq] at hm
    cases hf' : i.methods.find? (·.name == name) with
    | none => rw [hf'] at hm; cases hm
    | some m =>
      rw [hf'] at hm
      simp only [Option.map_some, Option.some.injEq, Prod.mk.injEq] at hm
      obtain ⟨h1, h2⟩ := hm
      simp [method, typeInfo, hi, hf', h1, h2, follow, receiverAt, run_underlying hu, Place.get, nilchk_some, asAddr, hl w hw]
structure Iface (t : TypeId) (v : Value) {α : Type} [Inhabited α] (less : α → α → Bool) (ok : α → Prop) (Rp : List α → Heap → Prop) : Prop where
  len : ∀ {l h}, Rp l h → Inv t v "Len" [] h fun u h' => u = .int .i64 (l.length : Int) ∧ h' = h
  less : ∀ {l h i k}, Rp l h → i < l.length → k < l.length → ok (at_ l i) → ok (at_ l k) → Inv t v "Less" [.int .i64 (i : Int), .int .i64 (k : Int)] h fun u h' => u = .bool (less (at_ l i) (at_ l k)) ∧ Rp l h'
  swap : ∀ {l h i k}, Rp l h → i < l.length → k < l.length → Inv t v "Swap" [.int .i64 (i : Int), .int .i64 (k : Int)] h fun _ h' => Rp (swp l i k) h'
  few : ∀ {l h}, Rp l h → l.length ≤ 1000000000000

theorem half (j : Nat) : ((j : Int) - 1).tdiv 2 = (((j - 1) / 2 : Nat) : Int) := by
  cases j with
  | zero => rfl
  | succ j =>
    have : ((j + 1 : Nat) : Int) - 1 = (j : Int) := by omega
    rw [this, Nat.add_sub_cancel]
    rfl

section
variable {t : TypeId} {v : Value} {α : Type} [Inhabited α] {less : α → α → Bool} {ok : α → Prop} {Rp : List α → Heap → Prop} (I : Iface t v less ok Rp)
include I

omit I in
theorem ok_swp {l : List α} {n i j : Nat} (h : ∀ k, k < n → ok (at_ l k)) (hn : n ≤ l.length) (hi : i < n) (hj : j < n) : ∀ k, k < n → ok (at_ (swp l i j) k) := fun k hk => by
  rw [swp_at l (by omega) (by omega)]
  unfold swpF
  split
  · exact h _ hj
  · split
    · exact h _ hi
    · exact h _ hk

theorem down_fn {l : List α} {h : Heap} {i n : Nat} (hr : Rp l h) (hn : n ≤ l.length) (hi : i ≤ n) (hok : ∀ k, k < n → ok (at_ l k)) :
    FnS Try.prog 30 [.iface t v, .int .i64 (i : Int), .int .i64 (n : Int)] h fun u h' => u = .bool (decide (i < (down less l i n).2)) ∧ Rp (down less l i n).1 h' := by
  refine FnS.intro Try.func30 rfl rfl rfl ?_
  refine Sat.seq ?_
  refine Sat.region rfl ?_
  refine Sat.seq ?_
  refine Sat.region rfl ?_
  refine Sat.cut (X := List α × Nat) (fun x => [(0, .iface t v), (1, .int .i64 (i : Int)), (7, .int .i64 (x.2 : Int))]) (fun x h => Rp x.1 h ∧ x = down less l i n) ?_ ?_
  · refine Sat.block ?_
    refine Sat.loop (X := List α × Nat) (fun x => [(0, .iface t v), (1, .int .i64 (i : Int)), (2, .int .i64 (n : Int)), (7, .int .i64 (x.2 : Int))]) (fun x h => Rp x.1 h ∧ x.1.length = l.length ∧ x.2 ≤ n ∧ (∀ k, k < n → ok (at_ x.1 k)) ∧ down less x.1 x.2 n = down less l i n)
      (fun x => n - x.2) (l, i) ⟨rfl, rfl, rfl, rfl, trivial⟩ ⟨hr, rfl, hi, hok, rfl⟩ ?_
    rintro ⟨l', i'⟩ h' ⟨hr', hlen, hin, hok', he⟩
    simp only at hr' hlen hin hok' he ⊢
    have hfew := I.few hr'
    refine Sat.block ?_
    refine Sat.seq ?_
    refine Sat.region rfl ?_
    refine ⟨rfl, _, wrap_i64 (by omega) (by omega), rfl, ((2 * i' + 1 : Nat) : Int), (by rw [wrap_i64 (by omega) (by omega)]; omega), ?_⟩
    refine Sat.seq ?_
    refine Sat.seq ?_
    refine Sat.region rfl ?_
    refine ⟨rfl, fun h1 => ?_, fun h1 => ?_⟩
    · refine Sat.cond ?_
      refine Sat.exit ?_
      refine ⟨(l', i'), ⟨rfl, rfl, rfl, trivial⟩, hr', ?_⟩
      rw [← he, down_end less (by omega)]
    · refine ⟨rfl, fun h2 => absurd h2 (by omega), fun _ => ?_⟩
      refine Sat.cond ?_
      refine Sat.skip ?_
      have hlt : 2 * i' + 1 < n := by omega
      refine Sat.seq ?_
      refine Sat.region rfl ?_
      refine Sat.cut (X := Unit) (fun _ => [(0, .iface t v), (1, .int .i64 (i : Int)), (2, .int .i64 (n : Int)), (7, .int .i64 (i' : Int)), (9, .int .i64 (child less l' i' n : Int))]) (fun _ h => Rp l' h) ?_ ?_
      · refine Sat.seq ?_
        refine Sat.region rfl ?_
        refine ⟨rfl, ((2 * i' + 2 : Nat) : Int), (by rw [wrap_i64 (by omega) (by omega)]; omega), ?_⟩
        refine Sat.seq ?_
        refine Sat.region rfl ?_
        refine ⟨rfl, fun h2 => ?_, fun h2 => ?_⟩
        · have hlt2 : 2 * i' + 2 < n := by omega
          obtain ⟨g, rcv, hrun, hfn⟩ := I.less hr' (show 2 * i' + 2 < l'.length by omega) (show 2 * i' + 1 < l'.length by omega) (hok' _ (by omega)) (hok' _ (by omega))
          cases hl : less (at_ l' (2 * i' + 2)) (at_ l' (2 * i' + 1)) with
          | true =>
            rw [hl] at hfn
            have hc : child less l' i' n = 2 * i' + 2 := by unfold child; rw [if_pos ⟨hlt2, hl⟩]
            refine ⟨g, rcv, hrun, hfn.mono ?_⟩
            rintro u h3 ⟨rfl, hr3⟩
            refine Sat.cond ?_
            refine Sat.region rfl ?_
            refine ⟨(), ⟨rfl, rfl, rfl, rfl, ?_, trivial⟩, hr3⟩
            rw [hc]; rfl
          | false =>
            rw [hl] at hfn
            have hc : child less l' i' n = 2 * i' + 1 := by unfold child; rw [if_neg (by rw [hl]; simp)]
            refine ⟨g, rcv, hrun, hfn.mono ?_⟩
            rintro u h3 ⟨rfl, hr3⟩
            refine Sat.cond ?_
            refine Sat.skip ?_
            refine ⟨(), ⟨rfl, rfl, rfl, rfl, ?_, trivial⟩, hr3⟩
            rw [hc]; rfl
        · have hc : child less l' i' n = 2 * i' + 1 := by unfold child; rw [if_neg (by omega)]
          refine Sat.cond ?_
          refine Sat.skip ?_
          refine ⟨(), ⟨rfl, rfl, rfl, rfl, ?_, trivial⟩, hr'⟩
          rw [hc]; rfl
      · intro _ h2 hr2
        obtain ⟨c1, c2, c3⟩ := child_le less l' i' n hlt
        refine Sat.seq ?_
        refine Sat.seq ?_
        refine Sat.region rfl ?_
        obtain ⟨g, rcv, hrun, hfn⟩ := I.less hr2 (show child less l' i' n < l'.length by omega) (show i' < l'.length by omega) (hok' _ (by omega)) (hok' _ (by omega))
        cases hl : less (at_ l' (child less l' i' n)) (at_ l' i') with
        | false =>
          rw [hl] at hfn
          refine ⟨g, rcv, hrun, hfn.mono ?_⟩
          rintro u h3 ⟨rfl, hr3⟩
          refine Sat.cond ?_
          refine Sat.exit ?_
          refine ⟨(l', i'), ⟨rfl, rfl, rfl, trivial⟩, hr3, ?_⟩
          rw [← he, down_stop less hlt hl]
        | true =>
          rw [hl] at hfn
          refine ⟨g, rcv, hrun, hfn.mono ?_⟩
          rintro u h3 ⟨rfl, hr3⟩
          refine Sat.cond ?_
          refine Sat.skip ?_
          refine Sat.seq ?_
          refine Sat.region rfl ?_
          obtain ⟨g2, rcv2, hrun2, hfn2⟩ := I.swap hr3 (show i' < l'.length by omega) (show child less l' i' n < l'.length by omega)
          refine ⟨g2, rcv2, hrun2, hfn2.mono ?_⟩
          intro u h4 hr4
          refine Sat.region rfl ?_
          refine ⟨(swp l' i' (child less l' i' n), child less l' i' n), ⟨rfl, rfl, rfl, rfl, trivial⟩, ⟨hr4, ?_, ?_, ?_, ?_⟩, ?_⟩
          · simp only [swp_length]; exact hlen
          · exact Nat.le_of_lt c2
          · exact ok_swp hok' (by omega) (by omega) (by omega)
          · rw [← he, ← down_go less hlt hl]
          · show n - child less l' i' n < n - i'
            omega
  · rintro ⟨l', i'⟩ h' ⟨hr', he⟩
    refine Sat.seq ?_
    refine Sat.region rfl ?_
    have e1 : (down less l i n).1 = l' := by rw [← he]
    have e2 : (down less l i n).2 = i' := by rw [← he]
    refine ⟨rfl, fun h1 => ?_, fun h1 => ?_⟩
    · refine Sat.ret ?_
      exact ⟨by rw [e2]; simp; omega, by rw [e1]; exact hr'⟩
    · refine Sat.ret ?_
      exact ⟨by rw [e2]; simp; omega, by rw [e1]; exact hr'⟩

theorem pop_fn {l : List α} {h : Heap} {n : Nat} (hr : Rp l h) (hn : l.length = n + 1) (hok : ∀ k, 0 < k → k < l.length → ok (at_ l k)) {R : Value → Heap → Prop} (hp : ∀ l' h', Rp l' h' → l'.length = n + 1 → l' = (down less (swp l 0 n) 0 n).1 → Inv t v "Pop" [] h' R) :
    FnS Try.prog 16 [.iface t v] h R := by
  have hfew := I.few hr
  refine FnS.intro Try.func16 rfl rfl rfl ?_
  refine Sat.seq ?_
  refine Sat.region rfl ?_
  refine Sat.seq ?_
  refine Sat.region rfl ?_
  obtain ⟨g2, rcv2, hrun2, hfn2⟩ := I.len hr
  refine ⟨g2, rcv2, hrun2, hfn2.mono ?_⟩
  rintro u2 h2 ⟨rfl, rfl⟩
  refine ⟨rfl, (n : Int), (by rw [wrap_i64 (by omega) (by omega)]; omega), ?_⟩
  refine Sat.seq ?_
  refine Sat.region rfl ?_
  obtain ⟨g3, rcv3, hrun3, hfn3⟩ := I.swap hr (i := 0) (k := n) (by omega) (by omega)
  refine ⟨g3, rcv3, hrun3, hfn3.mono ?_⟩
  intro u3 h3 hr3
  refine Sat.seq ?_
  refine Sat.region rfl ?_
  refine (down_fn I hr3 (i := 0) (n := n) (by rw [swp_length]; omega) (Nat.zero_le _) ?_).mono ?_
  · intro k hk
    rw [swp_at l (by omega) (by omega)]
    unfold swpF
    split
    · exact hok _ (by omega) (by omega)
    · rw [if_neg (by omega)]; exact hok _ (by omega) (by omega)
  rintro u4 h4 ⟨rfl, hr4⟩
  refine Sat.seq ?_
  refine Sat.region rfl ?_
  obtain ⟨g5, rcv5, hrun5, hfn5⟩ := hp _ h4 hr4 (by rw [down_length less _ _ _ _ rfl, swp_length, hn]) rfl
  refine ⟨g5, rcv5, hrun5, hfn5.mono ?_⟩
  intro u5 h5 hr5
  refine Sat.ret ?_
  exact hr5

theorem init_fn {l : List α} {h : Heap} (hr : Rp l h) (hok : ∀ k, k < l.length → ok (at_ l k)) (le : α → α → Prop) (ho : Order less le) : FnS Try.prog 14 [.iface t v] h fun _ h' => ∃ l', Rp l' h' ∧ l'.Perm l ∧ HO le l' l'.length := by
  have hfew := I.few hr
  refine FnS.intro Try.func14 rfl rfl rfl ?_
  refine Sat.seq ?_
  refine Sat.region rfl ?_
  obtain ⟨g2, rcv2, hrun2, hfn2⟩ := I.len hr
  refine ⟨g2, rcv2, hrun2, hfn2.mono ?_⟩
  rintro u2 h2 ⟨rfl, rfl⟩
  refine Sat.seq ?_
  refine Sat.region rfl ?_
  refine ⟨rfl, by decide, ((l.length / 2 : Nat) : Int), ?_, ?_⟩
  · have : ((l.length : Nat) : Int).tdiv 2 = ((l.length / 2 : Nat) : Int) := rfl
    rw [this]
    exact wrap_i64 (by omega) (by omega)
  refine ⟨rfl, ((l.length / 2 : Nat) : Int) - 1, wrap_i64 (by omega) (by omega), ?_⟩
  refine Sat.block ?_
  refine Sat.loop (X := Nat × List α) (fun x => [(0, .iface t v), (2, .int .i64 (l.length : Int)), (3, .int .i64 ((x.1 : Int) - 1))]) (fun x h => Rp x.2 h ∧ x.2.Perm l ∧ x.1 ≤ l.length / 2 ∧ ∀ k, 0 < k → k < l.length → x.1 ≤ (k - 1) / 2 → le (at_ x.2 ((k - 1) / 2)) (at_ x.2 k)) (fun x => x.1) (l.length / 2, l)
    ⟨rfl, rfl, rfl, trivial⟩ ⟨hr, .refl _, Nat.le_refl _, fun k k0 kh kl => by simp only at kl; omega⟩ ?_
  rintro ⟨i, l1⟩ h1 ⟨hr1, hp1, hi, hh1⟩
  simp only at hr1 hp1 hi hh1 ⊢
  have hl1 := hp1.length_eq
  refine Sat.seq ?_
  refine Sat.seq ?_
  refine Sat.region rfl ?_
  refine ⟨rfl, fun h2 => ?_, fun h2 => ?_⟩
  rotate_left
  · have : i = 0 := by omega
    subst this
    refine Sat.cond ?_
    refine Sat.exit ?_
    exact ⟨l1, hr1, hp1, fun k k0 kh => hh1 k k0 (by omega) (Nat.zero_le _)⟩
  obtain ⟨j, rfl⟩ : ∃ j, i = j + 1 := ⟨i - 1, by omega⟩
  have ej : ((j + 1 : Nat) : Int) - 1 = (j : Int) := by omega
  rw [ej]
  refine Sat.cond ?_
  refine Sat.skip ?_
  refine Sat.seq ?_
  refine Sat.block ?_
  refine Sat.region rfl ?_
  refine (down_fn I hr1 (i := j) (n := l.length) (by omega) (by omega) (fun k hk => ?_)).mono ?_
  · have hm : at_ l1 k ∈ l := hp1.mem_iff.1 (List.mem_of_getElem? (at_get (by omega)))
    obtain ⟨q, hq⟩ := List.mem_iff_getElem?.1 hm
    rw [← at_some hq]
    exact hok q (List.getElem?_eq_some_iff.1 hq).1
  rintro u h3 ⟨rfl, hr3⟩
  have hdp := down_perm less l.length _ l1 j rfl (by omega)
  refine Sat.region rfl ?_
  refine ⟨rfl, (j : Int) - 1, wrap_i64 (by omega) (by omega), ?_⟩
  refine ⟨(j, _), ⟨rfl, rfl, rfl, trivial⟩, ⟨hr3, hdp.trans hp1, by simp only; omega, ?_⟩, by simp only; omega⟩
  exact down_from ho l.length _ l1 j j rfl (by omega) (Nat.le_refl _) ⟨fun k k0 kh kl kne => hh1 k k0 kh (by omega), fun k _ _ _ h4 h5 => by omega⟩
end
end Go.Proofs.Ytobjkcmiicflmaa
