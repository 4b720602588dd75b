/- Items in memory; the queue of sources, its methods. -/
import Derived.Test.YtiheebgoadmomaaV7
import Derived.Test.YtiheebgoadmomaaH2
import Derived.Test.YtiheebgoadmomaaM1
set_option maxRecDepth 100000
set_option linter.unusedVariables false
namespace Go.Proofs.Ytiheebgoadmomaa
open Go Go.V Go.V.Heaps

structure It where
  at_ : Int
  kind : Int
  data : List UInt8
  ek : Int
  ec : Int
  sh : Bool
  ct : Bool
  rows : Int
  cols : Int
/-- An item's cells; its data lies where dv says. -/
def itC (x : It) (dv : Value) : List Value := [.int .i64 x.at_, .int .i64 x.kind, dv, .int .i64 x.ek, .int .u8 x.ec, .bool x.sh, .bool x.ct, .int .i64 x.rows, .int .i64 x.cols]
def ItAt (h : Heap) (p : Addr) (x : It) : Prop := ∃ A c, Row h p (itC x (.slice A x.data.length c)) ∧ BytesAt h (.slice A x.data.length c) x.data
def ItemsAt (h : Heap) (p : Addr) (l : List It) : Prop := ∀ (k : Nat) x, l[k]? = some x → ItAt h (p.add (k * 9)) x
def ItemsV (h : Heap) (v : Value) (l : List It) : Prop := ∃ A c, v = .slice A l.length c ∧ l.length ≤ c ∧ (l = [] ∨ ∃ p, A = some p ∧ ItemsAt h p l)
def SrcsV (h : Heap) (v : Value) (ls : List (List It)) : Prop :=
  ∃ A c, v = .slice A ls.length c ∧ ls.length ≤ c ∧ (ls = [] ∨ ∃ p, A = some p ∧ ∀ (i : Nat) l, ls[i]? = some l → ∃ vi, cellH h (p.add (i * 1)) = some vi ∧ ItemsV h vi l)
theorem ItAt.ext {h h' : Heap} (hx : Ext h h') {p : Addr} {x : It} (hi : ItAt h p x) : ItAt h' p x := by
  obtain ⟨A, c, h1, h2⟩ := hi
  exact ⟨A, c, h1.ext hx, h2.ext hx⟩
theorem ItemsAt.ext {h h' : Heap} (hx : Ext h h') {p : Addr} {l : List It} (hi : ItemsAt h p l) : ItemsAt h' p l := fun k x hk => (hi k x hk).ext hx
theorem ItemsV.ext {h h' : Heap} (hx : Ext h h') {v : Value} {l : List It} (hi : ItemsV h v l) : ItemsV h' v l := by
  obtain ⟨A, c, rfl, hc, hr⟩ := hi
  exact ⟨A, c, rfl, hc, hr.imp id fun ⟨p, hp, hi⟩ => ⟨p, hp, hi.ext hx⟩⟩
theorem SrcsV.ext {h h' : Heap} (hx : Ext h h') {v : Value} {ls : List (List It)} (hi : SrcsV h v ls) : SrcsV h' v ls := by
  obtain ⟨A, c, rfl, hc, hr⟩ := hi
  exact ⟨A, c, rfl, hc, hr.imp id fun ⟨p, hp, hi⟩ => ⟨p, hp, fun i l hl => by obtain ⟨vi, h1, h2⟩ := hi i l hl; exact ⟨vi, hx.cell h1, h2.ext hx⟩⟩⟩
theorem ItAt.at_ {h : Heap} {p : Addr} {x : It} (hi : ItAt h p x) : cellH h (p.add 0) = some (.int .i64 x.at_) := by
  obtain ⟨A, c, h1, _⟩ := hi
  exact h1 0 _ rfl
theorem ItemsAt.tail {h : Heap} {p : Addr} {x : It} {l : List It} (hi : ItemsAt h p (x :: l)) : ItemsAt h (p.add (1 * 9)) l := fun k y hk => by
  have := hi (k + 1) y (by simpa using hk)
  rwa [add_add, show 1 * 9 + k * 9 = (k + 1) * 9 by omega]

/-- A source in the queue. -/
structure Src where
  p : Addr
  cap : Nat
  l : List It
  n : Nat
instance : Inhabited Src := ⟨⟨⟨0, 0, none⟩, 0, [], 0⟩⟩
def srcC (s : Src) : List Value := [.slice (some s.p) s.l.length s.cap, .int .i64 (s.n : Int)]
theorem srcC_len (s : Src) : (srcC s).length = 2 := rfl
def less : Src → Src → Bool := srcLess Src.l Src.n It.at_
def SrcOk (h0 : Heap) (s : Src) : Prop := s.l ≠ [] ∧ s.l.length ≤ s.cap ∧ ItemsAt h0 s.p s.l

/-- The queue: its variable is block bq, its sources l; from h0 nothing has changed, from h1 only what G says. -/
def QRep (h0 : Heap) (bq : Nat) (G : Nat → Prop) (h1 : Heap) (l : List Src) (h : Heap) : Prop :=
  Ext h0 h ∧ Chg G h1 h ∧ h0.size ≤ bq ∧ G bq ∧ (∃ v, Blk h bq 51 #[v] ∧ Own h h0.size 55 2 v l.length (l.flatMap srcC) ∧ ∀ g, v.ownBlock = some g → G g ∧ g ≠ bq) ∧ l.length ≤ 1000000000000

theorem less_fn (h : Heap) (p : Addr) (len cap i k : Nat) (hi : i < len) (hk : k < len) (a b : Src) (ha : Row h (p.add (i * 2)) (srcC a)) (hb : Row h (p.add (k * 2)) (srcC b))
    (h0 : Heap) (hx : Ext h0 h) (oa : SrcOk h0 a) (ob : SrcOk h0 b) :
    FnS Try.prog 41 [.slice (some p) len cap, .int .i64 i, .int .i64 k] h fun v h' => v = .bool (less a b) ∧ h' = h := by
  obtain ⟨na, _, ia⟩ := oa
  obtain ⟨nb, _, ib⟩ := ob
  obtain ⟨x, ra, hxa⟩ := List.exists_cons_of_ne_nil na
  obtain ⟨y, rb, hyb⟩ := List.exists_cons_of_ne_nil nb
  have c1 : cellH h ((p.add (i * 2)).add 0) = some (.slice (some a.p) a.l.length a.cap) := ha 0 _ rfl
  have c2 : cellH h ((p.add (k * 2)).add 0) = some (.slice (some b.p) b.l.length b.cap) := hb 0 _ rfl
  have c3 : cellH h ((a.p.add (0 * 9)).add 0) = some (.int .i64 x.at_) := ((ia 0 x (by rw [hxa]; rfl)).ext hx).at_
  have c4 : cellH h ((b.p.add (0 * 9)).add 0) = some (.int .i64 y.at_) := ((ib 0 y (by rw [hyb]; rfl)).ext hx).at_
  have c5 : cellH h ((p.add (i * 2)).add 1) = some (.int .i64 (a.n : Int)) := ha 1 _ rfl
  have c6 : cellH h ((p.add (k * 2)).add 1) = some (.int .i64 (b.n : Int)) := hb 1 _ rfl
  have hli : 0 < a.l.length := List.length_pos_iff.2 na
  have hlk : 0 < b.l.length := List.length_pos_iff.2 nb
  have hl : less a b = decide (x.at_ < y.at_ ∨ x.at_ = y.at_ ∧ a.n < b.n) := by unfold less srcLess; rw [hxa, hyb]; rfl
  rw [hl]
  clear hl
  refine FnS.intro Try.func41 rfl rfl rfl ?_
  refine Sat.seq ?_
  refine Sat.region rfl ?_
  refine Sat.seq ?_
  refine Sat.drawn .plain rfl (by kernel_rfl) ?_
  refine ⟨p, i, rfl, rfl, hi, by decide, _, c1, a.p, 0, rfl, rfl, hli, by decide, _, c3, ?_⟩
  refine ⟨p, k, rfl, rfl, hk, by decide, _, c2, b.p, 0, rfl, rfl, hlk, by decide, _, c4, ?_⟩
  refine Sat.seq ?_
  refine Sat.drawn .plain rfl (by kernel_rfl) ?_
  refine ⟨rfl, fun h1 => ?_, fun h1 => ?_⟩
  · refine Sat.ret ?_
    exact ⟨by simp [h1], rfl⟩
  · refine ⟨rfl, fun h2 => ?_, fun h2 => ?_⟩
    · refine ⟨p, i, rfl, rfl, hi, by decide, _, c5, p, k, rfl, rfl, hk, by decide, _, c6, rfl, fun h3 => ?_, fun h3 => ?_⟩
      · refine Sat.ret ?_
        exact ⟨by simp [h2]; omega, rfl⟩
      · refine Sat.ret ?_
        exact ⟨by simp [h2]; omega, rfl⟩
    · refine Sat.ret ?_
      exact ⟨by simp [h2, Int.not_lt.2 h1], rfl⟩

theorem swap_fn (h : Heap) (p : Addr) (len cap i k : Nat) (hi : i < len) (hk : k < len) (a b : Src) (ha : Row h (p.add (i * 2)) (srcC a)) (hb : Row h (p.add (k * 2)) (srcC b))
    (ci : ∀ j, j < 2 → (∃ u, cellH h ((p.add (i * 2)).add j) = some u) ∧ frozenH h ((p.add (i * 2)).add j) = false)
    (ck : ∀ j, j < 2 → (∃ u, cellH (setRow h (p.add (i * 2)) (srcC b) 0) ((p.add (k * 2)).add j) = some u) ∧ frozenH (setRow h (p.add (i * 2)) (srcC b) 0) ((p.add (k * 2)).add j) = false) :
    FnS Try.prog 42 [.slice (some p) len cap, .int .i64 i, .int .i64 k] h fun _ h' => h' = setRow (setRow h (p.add (i * 2)) (srcC b) 0) (p.add (k * 2)) (srcC a) 0 := by
  refine FnS.intro Try.func42 rfl rfl rfl ?_
  refine Sat.drawn .plain rfl (by kernel_rfl) ?_
  refine ⟨p, k, rfl, rfl, hk, srcC b, rfl, hb, ?_⟩
  refine ⟨p, i, rfl, rfl, hi, srcC a, rfl, ha, ?_⟩
  refine ⟨p, i, rfl, rfl, hi, rfl, ?_, ci, ?_⟩
  · intro u hu; simp [srcC] at hu; rcases hu with rfl | rfl <;> rfl
  refine ⟨p, k, rfl, rfl, hk, rfl, ?_, ck, ?_⟩
  · intro u hu; simp [srcC] at hu; rcases hu with rfl | rfl <;> rfl
  rfl

theorem len_fn (h : Heap) (b : Option Addr) (n c : Nat) : FnS Try.prog 15 [.slice b n c] h fun u h' => u = .int .i64 (n : Int) ∧ h' = h := by
  refine FnS.intro Try.func15 rfl rfl rfl ?_
  refine Sat.seq ?_
  refine Sat.region rfl ?_
  refine Sat.seq ?_
  refine Sat.region rfl ?_
  refine Sat.ret ?_
  exact ⟨rfl, rfl⟩

theorem und53 : Try.prog.underlying 53 = some (.pointer 51) := by kernel_rfl
theorem m53Len : ((Try.prog.info? 53).map fun i => (i.methods.find? (·.name == "Len")).map fun m => (m.path, m.func)) = some (some (#[], some (15, false))) := by kernel_rfl
theorem m53Less : ((Try.prog.info? 53).map fun i => (i.methods.find? (·.name == "Less")).map fun m => (m.path, m.func)) = some (some (#[], some (41, false))) := by kernel_rfl
theorem m53Swap : ((Try.prog.info? 53).map fun i => (i.methods.find? (·.name == "Swap")).map fun m => (m.path, m.func)) = some (some (#[], some (42, false))) := by kernel_rfl
theorem m53Push : ((Try.prog.info? 53).map fun i => (i.methods.find? (·.name == "Push")).map fun m => (m.path, m.func)) = some (some (#[], some (44, true))) := by kernel_rfl
theorem m53Pop : ((Try.prog.info? 53).map fun i => (i.methods.find? (·.name == "Pop")).map fun m => (m.path, m.func)) = some (some (#[], some (43, true))) := by kernel_rfl

theorem blk_load {h : Heap} {b : Nat} {v : Value} (hb : Blk h b 51 #[v]) : vload Try.prog 51 ⟨b, 0, none⟩ h fun u => u = v := ⟨v, by rw [hb.cell]; rfl, rfl⟩

/-- The queue serves container/heap. -/
theorem queue_iface (h0 : Heap) (bq : Nat) (G : Nat → Prop) (h1 : Heap) : Iface 53 (.pointer (some ⟨bq, 0, none⟩)) less (SrcOk h0) (QRep h0 bq G h1) where
  few := fun h => h.2.2.2.2.2
  len := fun {l h} hr => by
    obtain ⟨_, _, _, _, ⟨v, hb, ho, _⟩, _⟩ := hr
    obtain ⟨b, c, rfl, _⟩ := ho.slice
    exact inv_val m53Len und53 (blk_load hb) (len_fn h b l.length c)
  less := fun {l h i k} hr hi hk oi ok => by
    obtain ⟨hx, _, _, _, ⟨v, hb, ho, _⟩, _⟩ := hr
    obtain ⟨g, c, rfl, _, _, hrow, _⟩ := ho.ptr (by omega)
    exact inv_val m53Less und53 (blk_load hb) (less_fn h _ _ _ i k hi hk _ _ (hrow.elem srcC_len (at_get hi)) (hrow.elem srcC_len (at_get hk)) h0 hx oi ok)
  swap := fun {l h i k} hr hi hk => by
    obtain ⟨hx, hc, hbq, hG, ⟨v, hb, ho, hg⟩, hn⟩ := hr
    obtain ⟨g, c, rfl, hge, hgl, hrow, _⟩ := ho.ptr (by omega)
    have hne : g ≠ bq := (hg g rfl).2
    have o1 := ho.put srcC_len rfl hi (at_ l k)
    have o2 := o1.put srcC_len (by simp) hk (at_ l i)
    refine inv_val m53Swap und53 (blk_load hb) ((swap_fn h _ _ _ i k hi hk _ _ (hrow.elem srcC_len (at_get hi)) (hrow.elem srcC_len (at_get hk)) (ho.cells srcC_len rfl hi) (o1.cells srcC_len (by simp) hk)).mono ?_)
    rintro u h' rfl
    have s1 := setRow_chg ((⟨g, 0, none⟩ : Addr).add (i * 2)) (srcC (at_ l k)) 0 h
    have s2 := setRow_chg ((⟨g, 0, none⟩ : Addr).add (k * 2)) (srcC (at_ l i)) 0 (setRow h ((⟨g, 0, none⟩ : Addr).add (i * 2)) (srcC (at_ l k)) 0)
    rw [add_block] at s1 s2
    have s12 := s1.trans s2
    refine ⟨hx.then_new s12 (fun j hj => by subst hj; exact hge), hc.trans (s12.mono fun j _ hj => by subst hj; exact (hg _ rfl).1), hbq, hG, ⟨.slice (some ⟨g, 0, none⟩) l.length c, hb.chg s12 (fun e => hne e.symm), ?_, hg⟩, by rw [swp_length]; exact hn⟩
    rw [swp_length]
    exact o2
end Go.Proofs.Ytiheebgoadmomaa
