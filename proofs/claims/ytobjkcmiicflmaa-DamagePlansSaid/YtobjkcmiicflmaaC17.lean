/- The program's Plan: pieces out of spans; the pile written; what is left, sorted. -/
import Derived.Test.YtobjkcmiicflmaaC16
import Derived.Test.YtobjkcmiicflmaaC8
set_option maxRecDepth 100000
set_option linter.unusedVariables false
namespace Go.Proofs.Ytobjkcmiicflmaa
open Go Go.V Go.V.Heaps

theorem i47 : slInfo Try.prog 47 = some (49, 4, .agg #[.int .i64 0, .int .i64 0, .int .i64 0, .int .i64 0], 32) := by kernel_rfl

def pcsFrom : Nat → List Sp → List Pc
  | _, [] => []
  | k, s :: r => ⟨s.row, s.left, s.right, (k : Int)⟩ :: pcsFrom (k + 1) r
def pcs (ls : List Sp) : List Pc := pcsFrom 0 ls
theorem pcsFrom_length : ∀ (k : Nat) (ls : List Sp), (pcsFrom k ls).length = ls.length
  | _, [] => rfl
  | k, s :: r => by simp [pcsFrom, pcsFrom_length (k + 1) r]
theorem pcsFrom_get : ∀ (k : Nat) (ls : List Sp) (i : Nat), (pcsFrom k ls)[i]? = (ls[i]?).map fun s => ⟨s.row, s.left, s.right, ((k + i : Nat) : Int)⟩
  | _, [], i => by simp [pcsFrom]
  | k, s :: r, 0 => by simp [pcsFrom]
  | k, s :: r, i + 1 => by
    simp only [pcsFrom, List.getElem?_cons_succ]
    rw [pcsFrom_get (k + 1) r i, show k + 1 + i = k + (i + 1) by omega]
theorem pcsFrom_map : ∀ (k : Nat) (ls : List Sp), (pcsFrom k ls).map spOf = ls
  | _, [] => rfl
  | k, s :: r => by simp [pcsFrom, spOf, pcsFrom_map (k + 1) r]
theorem pcsFrom_le : ∀ (k : Nat) (ls : List Sp), ∀ x ∈ pcsFrom k ls, (k : Int) ≤ x.at_
  | _, [], x, hx => by cases hx
  | k, s :: r, x, hx => by
    rcases List.mem_cons.1 hx with rfl | h
    · exact Int.le_refl _
    · have := pcsFrom_le (k + 1) r x h; omega
theorem pcsFrom_sorted : ∀ (k : Nat) (ls : List Sp), (pcsFrom k ls).Pairwise fun a b => a.at_ < b.at_
  | _, [] => .nil
  | k, s :: r => List.pairwise_cons.2 ⟨fun x hx => by have := pcsFrom_le (k + 1) r x hx; show (k : Int) < x.at_; omega, pcsFrom_sorted (k + 1) r⟩
theorem pcs_length (ls : List Sp) : (pcs ls).length = ls.length := pcsFrom_length 0 ls
theorem pcs_get (ls : List Sp) (i : Nat) : (pcs ls)[i]? = (ls[i]?).map fun s => ⟨s.row, s.left, s.right, (i : Int)⟩ := by
  have := pcsFrom_get 0 ls i
  rwa [Nat.zero_add] at this
theorem pcs_map (ls : List Sp) : (pcs ls).map spOf = ls := pcsFrom_map 0 ls
theorem pcs_sorted (ls : List Sp) : (pcs ls).Pairwise fun a b => a.at_ < b.at_ := pcsFrom_sorted 0 ls
theorem pcs_keys (ls : List Sp) : Keys (pcs ls) := by
  unfold Keys
  rw [List.nodup_iff_pairwise_ne, List.pairwise_map]
  exact (pcs_sorted ls).imp fun {a b} h e => by unfold keyP at e; omega
theorem pcs_ok {ls : List Sp} (h : ∀ x ∈ ls, OkSp x) : ∀ x ∈ pcs ls, OkPc x := fun x hx => h (spOf x) (by rw [← pcs_map ls]; exact List.mem_map_of_mem hx)

/-- Two lists with the same members, both by place: one. -/
theorem byAt_unique : ∀ {a b : List Pc}, a.Perm b → a.Pairwise (fun x y => x.at_ < y.at_) → b.Pairwise (fun x y => x.at_ < y.at_) → a = b
  | [], b, hp, _, _ => (List.nil_perm.1 hp).symm
  | x :: a, [], hp, _, _ => absurd (List.perm_nil.1 hp) (by simp)
  | x :: a, y :: b, hp, ha, hb => by
    have ha' := List.pairwise_cons.1 ha
    have hb' := List.pairwise_cons.1 hb
    have hxy : x = y := by
      have h1 : x ∈ y :: b := hp.mem_iff.1 (List.mem_cons_self ..)
      have h2 : y ∈ x :: a := hp.mem_iff.2 (List.mem_cons_self ..)
      rcases List.mem_cons.1 h1 with e | h1
      · exact e
      · rcases List.mem_cons.1 h2 with e | h2
        · exact e.symm
        · have := ha'.1 y h2; have := hb'.1 x h1; omega
    subst hxy
    rw [byAt_unique (List.Perm.cons_inv hp) ha'.2 hb'.2]

theorem PRep.put {h0 h : Heap} {bp g c : Nat} {l : List Pc} {k : Nat} (hr : PRep h0 bp g c l h) (hk : k < l.length) (x : Pc) :
    PRep h0 bp g c (l.set k x) (setRow h ((⟨g, 0, none⟩ : Addr).add (k * 4)) (pcC x) 0) := by
  have o1 := hr.own.put pcC_len rfl hk x
  have s1 := setRow_chg ((⟨g, 0, none⟩ : Addr).add (k * 4)) (pcC x) 0 h
  rw [add_block] at s1
  have hl : (l.set k x).length = l.length := List.length_set
  refine ⟨hr.chg.trans (s1.mono fun j _ hj => .inr hj), ?_, ?_, hr.ne, hr.lt, by rw [hl]; exact hr.few⟩
  · rw [hl]; exact hr.var.chg s1 hr.ne
  · rw [hl]; exact o1

/-- The slice v reads as these pieces. -/
def PcsV (h : Heap) (v : Value) (f : List Pc) : Prop := ∃ A c, v = .slice A f.length c ∧ (f = [] ∨ ∃ p, A = some p ∧ ∀ (k : Nat) x, f[k]? = some x → Row h (p.add (k * 4)) (pcC x))

theorem sort_any {h : Heap} {base : Nat} {v : Value} {f : List Pc} (ho : Own h base 49 4 v f.length (f.flatMap pcC)) (hk : Keys f) (h40 : f.length ≤ 40) :
    FnS Try.prog 18 [v, cmpV] h fun _ h' => ∃ f', PcsV h' v f' ∧ f'.Perm f ∧ (f'.Pairwise fun a b => a.at_ < b.at_) ∧ Chg (fun k => v.ownBlock = some k) h h' := by
  rcases ho.2 with ⟨rfl, h0⟩ | ⟨g, cap, cur, rfl, hb, hg, hnc, hm, hsz, ht⟩
  · have hf : f = [] := List.eq_nil_of_length_eq_zero h0
    subst hf
    refine sort_nil.mono ?_
    rintro u h' rfl
    exact ⟨[], ⟨none, 0, rfl, .inl rfl⟩, .refl _, .nil, Chg.refl _ _⟩
  · have hs : SS h g cap f h := ⟨⟨ho.1, .inr ⟨g, cap, cur, rfl, Nat.le_refl _, hg, hnc, hm, hsz, ht⟩⟩, Chg.refl _ _, (Array.getElem?_eq_some_iff.1 hg).1, by omega⟩
    refine (sort_fn hs hk h40).mono ?_
    rintro u h' ⟨f', s', p', so'⟩
    have hl := p'.length_eq
    have hk' : Keys f' := (p'.map keyP).nodup_iff.2 hk
    refine ⟨f', ⟨some ⟨g, 0, none⟩, cap, by rw [hl], .inr ⟨_, rfl, fun k x hx => ?_⟩⟩, p', ?_, s'.chg.mono fun k _ e => by subst e; rfl⟩
    · have := s'.row (List.getElem?_eq_some_iff.1 hx).1
      rwa [at_some hx] at this
    · rw [List.pairwise_iff_getElem]
      intro i j hi hj hij
      have h1 := so' i j (Nat.zero_le _) hij (by omega)
      have h2 := hk'.ne hi hj (by omega)
      rw [at_some (List.getElem?_eq_getElem hi), at_some (List.getElem?_eq_getElem hj)] at h1 h2
      unfold keyP at h1 h2
      omega
end Go.Proofs.Ytobjkcmiicflmaa
