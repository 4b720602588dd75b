/- SortFunc. -/
import Derived.Test.YtobjkcmiicflmaaC7
set_option maxRecDepth 100000
set_option linter.unusedVariables false
namespace Go.Proofs.Ytobjkcmiicflmaa
open Go Go.V Go.V.Heaps

theorem lenT_le (n : Nat) (h : n ≤ 40) : lenT n ≤ 100 := by
  have key : ∀ n : Nat, n < 41 → lenT n ≤ 100 := by decide +kernel
  exact key n (by omega)

theorem sort_fn {h : Heap} {g c : Nat} {l : List Pc} (hs : SS h g c l h) (hk : Keys l) (h40 : l.length ≤ 40) :
    FnS Try.prog 18 [slV g l.length c, cmpV] h fun _ h' => ∃ l', SS h g c l' h' ∧ l'.Perm l ∧ SO keyP l' 0 l.length := by
  refine FnS.intro Try.func18 rfl rfl rfl ?_
  refine Sat.seq ?_
  refine Sat.region rfl ?_
  refine Sat.region rfl ?_
  refine ⟨(l.length : Int), wrap_u64 (by omega) (by omega), ?_⟩
  refine (len_fn h40).mono ?_
  rintro u h1 ⟨rfl, rfl⟩
  refine (pdq_fn l.length hs hk (a := 0) (b := l.length) (lim := lenT l.length) (by omega) (Nat.zero_le _) (Nat.le_refl _) (by omega) (lenT_le _ h40) (fun h0 => absurd h0 (by omega))).mono ?_
  rintro u h2 ⟨l', s2, p2, so2⟩
  exact ⟨l', s2, p2.perm, so2⟩

theorem insertion_nil {h : Heap} : FnS Try.prog 40 [.slice none 0 0, .int .i64 0, .int .i64 0, cmpV] h fun _ h' => h' = h := by
  refine FnS.intro Try.func40 rfl rfl rfl ?_
  refine Sat.seq ?_
  refine Sat.region rfl ?_
  refine ⟨rfl, 1, by rw [wrap_i64 (by omega) (by omega)]; rfl, ?_⟩
  refine Sat.block ?_
  refine Sat.loop (X := Unit) (fun _ => [(2, .int .i64 0), (8, .int .i64 1)]) (fun _ h' => h' = h) (fun _ => 0) () ⟨rfl, rfl, trivial⟩ rfl ?_
  rintro _ h1 rfl
  refine Sat.seq ?_
  refine Sat.seq ?_
  refine Sat.region rfl ?_
  refine ⟨rfl, fun h2 => absurd h2 (by decide), fun _ => ?_⟩
  refine Sat.cond ?_
  refine Sat.exit ?_
  rfl

theorem pdq_nil {h : Heap} : FnS Try.prog 31 [.slice none 0 0, .int .i64 0, .int .i64 0, .int .i64 0, cmpV] h fun _ h' => h' = h := by
  refine FnS.intro Try.func31 rfl rfl rfl ?_
  refine Sat.seq ?_
  refine Sat.region rfl ?_
  refine Sat.seq ?_
  refine Sat.region rfl ?_
  refine Sat.block ?_
  refine Sat.loop (X := Unit) (fun _ => [(0, .slice none 0 0), (1, .int .i64 0), (2, .int .i64 0), (4, cmpV)]) (fun _ h' => h' = h) (fun _ => 0) () ⟨rfl, rfl, rfl, rfl, trivial⟩ rfl ?_
  rintro _ h1 rfl
  refine Sat.block ?_
  refine Sat.seq ?_
  refine Sat.region rfl ?_
  refine ⟨rfl, 0, by rw [wrap_i64 (by omega) (by omega)]; rfl, ?_⟩
  refine Sat.seq ?_
  refine Sat.seq ?_
  refine Sat.region rfl ?_
  refine ⟨rfl, fun _ => ?_, fun h2 => absurd h2 (by decide)⟩
  refine Sat.cond ?_
  refine Sat.seq ?_
  refine Sat.region rfl ?_
  refine insertion_nil.mono ?_
  rintro u h3 rfl
  refine Sat.ret ?_
  rfl

theorem sort_nil {h : Heap} : FnS Try.prog 18 [.slice none 0 0, cmpV] h fun _ h' => h' = h := by
  refine FnS.intro Try.func18 rfl rfl rfl ?_
  refine Sat.seq ?_
  refine Sat.region rfl ?_
  refine Sat.region rfl ?_
  refine ⟨((0 : Nat) : Int), wrap_u64 (by omega) (by omega), ?_⟩
  refine (len_fn (n := 0) (by omega)).mono ?_
  rintro u h1 ⟨rfl, rfl⟩
  exact pdq_nil
end Go.Proofs.Ytobjkcmiicflmaa
