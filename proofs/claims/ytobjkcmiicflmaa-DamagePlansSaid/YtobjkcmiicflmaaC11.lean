/- The pile's methods; it serves container/heap. -/
import Derived.Test.YtobjkcmiicflmaaC10
set_option maxRecDepth 100000
set_option linter.unusedVariables false
namespace Go.Proofs.Ytobjkcmiicflmaa
open Go Go.V Go.V.Heaps

/-- The pile: its variable is block bp, its pieces lie in block g; only these two have changed. -/
structure PRep (h0 : Heap) (bp g c : Nat) (l : List Pc) (h : Heap) : Prop where
  chg : Chg (fun k => k = bp ∨ k = g) h0 h
  var : Blk h bp 47 #[.slice (some ⟨g, 0, none⟩) l.length c]
  own : Own h g 49 4 (.slice (some ⟨g, 0, none⟩) l.length c) l.length (l.flatMap pcC)
  ne : bp ≠ g
  lt : bp < h0.size ∧ g < h0.size
  few : l.length ≤ 1000000

variable {h0 h h' : Heap} {bp g c : Nat} {l : List Pc}
theorem PRep.ext (hs : PRep h0 bp g c l h) (hx : Ext h h') : PRep h0 bp g c l h' := ⟨hs.chg.trans (hx.chg _), hs.var.ext hx, hs.own.ext hx, hs.ne, hs.lt, hs.few⟩
theorem PRep.row (hs : PRep h0 bp g c l h) {k : Nat} (hk : k < l.length) : Row h ((⟨g, 0, none⟩ : Addr).add (k * 4)) (pcC (at_ l k)) := by
  obtain ⟨g', c', e, _, _, hrow, _⟩ := hs.own.ptr (by omega)
  injection e with e
  injection e with e
  injection e with e
  subst e
  exact hrow.elem pcC_len (at_get hk)

theorem plen_fn (h : Heap) (b : Option Addr) (n c : Nat) : FnS Try.prog 15 [.slice b n c] h fun u h' => u = .int .i64 (n : Int) ∧ h' = h := by
  refine FnS.intro Try.func15 rfl rfl rfl ?_
  refine Sat.seq ?_
  refine Sat.region rfl ?_
  refine Sat.seq ?_
  refine Sat.region rfl ?_
  refine Sat.ret ?_
  exact ⟨rfl, rfl⟩

theorem pswap_fn (h : Heap) (g len cap i k : Nat) (hi : i < len) (hk : k < len) (a b : Pc) (ha : Row h ((⟨g, 0, none⟩ : Addr).add (i * 4)) (pcC a)) (hb : Row h ((⟨g, 0, none⟩ : Addr).add (k * 4)) (pcC b))
    (ci : ∀ j, j < 4 → (∃ u, cellH h (((⟨g, 0, none⟩ : Addr).add (i * 4)).add j) = some u) ∧ frozenH h (((⟨g, 0, none⟩ : Addr).add (i * 4)).add j) = false)
    (ck : ∀ j, j < 4 → (∃ u, cellH (setRow h ((⟨g, 0, none⟩ : Addr).add (i * 4)) (pcC b) 0) (((⟨g, 0, none⟩ : Addr).add (k * 4)).add j) = some u) ∧ frozenH (setRow h ((⟨g, 0, none⟩ : Addr).add (i * 4)) (pcC b) 0) (((⟨g, 0, none⟩ : Addr).add (k * 4)).add j) = false) :
    FnS Try.prog 88 [.slice (some ⟨g, 0, none⟩) len cap, .int .i64 i, .int .i64 k] h fun _ h' => h' = setRow (setRow h ((⟨g, 0, none⟩ : Addr).add (i * 4)) (pcC b) 0) ((⟨g, 0, none⟩ : Addr).add (k * 4)) (pcC a) 0 := by
  refine FnS.intro Try.func88 rfl rfl rfl ?_
  refine Sat.drawn .plain rfl (by kernel_rfl) ?_
  refine ⟨⟨g, 0, none⟩, k, rfl, rfl, hk, pcC b, rfl, hb, ?_⟩
  refine ⟨⟨g, 0, none⟩, i, rfl, rfl, hi, pcC a, rfl, ha, ?_⟩
  refine ⟨⟨g, 0, none⟩, i, rfl, rfl, hi, rfl, one_pc _, ci, ?_⟩
  refine ⟨⟨g, 0, none⟩, k, rfl, rfl, hk, rfl, one_pc _, ck, ?_⟩
  rfl

theorem und51 : Try.prog.underlying 51 = some (.pointer 47) := by kernel_rfl
theorem m51Len : ((Try.prog.info? 51).map fun i => (i.methods.find? (·.name == "Len")).map fun m => (m.path, m.func)) = some (some (#[], some (15, false))) := by kernel_rfl
theorem m51Less : ((Try.prog.info? 51).map fun i => (i.methods.find? (·.name == "Less")).map fun m => (m.path, m.func)) = some (some (#[], some (87, false))) := by kernel_rfl
theorem m51Swap : ((Try.prog.info? 51).map fun i => (i.methods.find? (·.name == "Swap")).map fun m => (m.path, m.func)) = some (some (#[], some (88, false))) := by kernel_rfl
theorem m51Pop : ((Try.prog.info? 51).map fun i => (i.methods.find? (·.name == "Pop")).map fun m => (m.path, m.func)) = some (some (#[], some (90, true))) := by kernel_rfl
theorem pblk_load {h : Heap} {b : Nat} {v : Value} (hb : Blk h b 47 #[v]) : vload Try.prog 47 ⟨b, 0, none⟩ h fun u => u = v := ⟨v, by rw [hb.cell]; rfl, rfl⟩

theorem pless_inv {i k : Nat} (hr : PRep h0 bp g c l h) (hi : i < l.length) (hk : k < l.length) (oi : OkPc (at_ l i)) (ok : OkPc (at_ l k)) :
    Inv 51 (.pointer (some ⟨bp, 0, none⟩)) "Less" [.int .i64 (i : Int), .int .i64 (k : Int)] h fun u h' => u = .bool (plLess (at_ l i) (at_ l k)) ∧ PRep h0 bp g c l h' := by
  have hf := pless_fn (n := l.length) (c := c) hi hk (hr.row hi) (hr.row hk) oi ok
  have hf' : FnS Try.prog 87 [.slice (some ⟨g, 0, none⟩) l.length c, .int .i64 (i : Int), .int .i64 (k : Int)] h fun u h' => u = .bool (plLess (at_ l i) (at_ l k)) ∧ PRep h0 bp g c l h' := hf.mono fun u h' hh => ⟨hh.1, hr.ext hh.2⟩
  exact inv_val m51Less und51 (pblk_load hr.var) hf'

theorem PRep.swap {i k : Nat} (hr : PRep h0 bp g c l h) (hi : i < l.length) (hk : k < l.length) :
    PRep h0 bp g c (swp l i k) (setRow (setRow h ((⟨g, 0, none⟩ : Addr).add (i * 4)) (pcC (at_ l k)) 0) ((⟨g, 0, none⟩ : Addr).add (k * 4)) (pcC (at_ l i)) 0) := by
  have o1 := hr.own.put pcC_len rfl hi (at_ l k)
  have o2 := o1.put pcC_len (by simp) hk (at_ l i)
  have s1 := setRow_chg ((⟨g, 0, none⟩ : Addr).add (i * 4)) (pcC (at_ l k)) 0 h
  have s2 := setRow_chg ((⟨g, 0, none⟩ : Addr).add (k * 4)) (pcC (at_ l i)) 0 (setRow h ((⟨g, 0, none⟩ : Addr).add (i * 4)) (pcC (at_ l k)) 0)
  rw [add_block] at s1 s2
  have s12 := s1.trans s2
  have hl : (swp l i k).length = l.length := swp_length l i k
  refine ⟨hr.chg.trans (s12.mono fun j _ hj => .inr hj), ?_, ?_, hr.ne, hr.lt, by rw [hl]; exact hr.few⟩
  · rw [hl]; exact hr.var.chg s12 hr.ne
  · rw [hl]; exact o2

theorem pswap_inv {i k : Nat} (hr : PRep h0 bp g c l h) (hi : i < l.length) (hk : k < l.length) : Inv 51 (.pointer (some ⟨bp, 0, none⟩)) "Swap" [.int .i64 (i : Int), .int .i64 (k : Int)] h fun _ h' => PRep h0 bp g c (swp l i k) h' := by
  have hf := pswap_fn h g l.length c i k hi hk _ _ (hr.row hi) (hr.row hk) (hr.own.cells pcC_len rfl hi) ((hr.own.put pcC_len rfl hi (at_ l k)).cells pcC_len (by simp) hk)
  have hf' : FnS Try.prog 88 [.slice (some ⟨g, 0, none⟩) l.length c, .int .i64 (i : Int), .int .i64 (k : Int)] h fun _ h' => PRep h0 bp g c (swp l i k) h' := hf.mono fun u h' e => by rw [e]; exact hr.swap hi hk
  exact inv_val m51Swap und51 (pblk_load hr.var) hf'

theorem pile_iface (h0 : Heap) (bp g c : Nat) : Iface 51 (.pointer (some ⟨bp, 0, none⟩)) plLess OkPc (PRep h0 bp g c) where
  few := fun h => by have := h.few; omega
  len := fun {l h} hr => inv_val m51Len und51 (pblk_load hr.var) (plen_fn h _ l.length c)
  less := fun {l h i k} hr hi hk oi ok => pless_inv hr hi hk oi ok
  swap := fun {l h i k} hr hi hk => pswap_inv hr hi hk

theorem ppop_m {n : Nat} (hr : PRep h0 bp g c l h) (hn : l.length = n + 1) :
    Inv 51 (.pointer (some ⟨bp, 0, none⟩)) "Pop" [] h fun u h' => u = .iface 49 (.agg (pcC (at_ l n)).toArray) ∧ PRep h0 bp g c (l.take n) h' := by
  have hlt := hr.var.lt
  have hgl : g < h.size := by
    obtain ⟨cur, hb⟩ := hr.own.tag (g := g) rfl
    exact hb.lt
  have hfew := hr.few
  refine inv_ptr m51Pop und51 ?_
  refine FnS.intro Try.func90 rfl rfl rfl ?_
  refine Sat.seq ?_
  refine Sat.region rfl ?_
  refine Sat.seq ?_
  refine Sat.region rfl ?_
  refine ⟨.slice (some ⟨g, 0, none⟩) l.length c, by rw [hr.var.cell]; rfl, ?_⟩
  refine ⟨rfl, (n : Int), by rw [wrap_i64 (by omega) (by omega)]; omega, ?_⟩
  refine Sat.seq ?_
  refine Sat.region rfl ?_
  refine ⟨.slice (some ⟨g, 0, none⟩) l.length c, by rw [hr.var.cell]; rfl, ?_⟩
  refine ⟨⟨g, 0, none⟩, n, rfl, rfl, by omega, _, rfl, hr.row (k := n) (by omega), ?_⟩
  obtain ⟨hA, eA⟩ : ∃ hA, hA = h.push (.cells #[.int .i64 0, .int .i64 0, .int .i64 0, .int .i64 0] 49) := ⟨_, rfl⟩
  have xA : Ext h hA := by rw [eA]; exact Ext.push h _
  have bA : Blk hA h.size 49 #[.int .i64 0, .int .i64 0, .int .i64 0, .int .i64 0] := by rw [eA]; exact Blk.new h _ _
  refine ⟨rfl, one_pc _, (Blk.new h 49 #[.int .i64 0, .int .i64 0, .int .i64 0, .int .i64 0]).okAt (by decide), ?_⟩
  obtain ⟨hB, eB⟩ : ∃ hB, hB = setRow hA ⟨h.size, 0, none⟩ (pcC (at_ l n)) 0 := ⟨_, rfl⟩
  have xB : Ext h hB := by rw [eB]; exact setRow_new xA (Nat.le_refl _) _ _
  have bB : Blk hB h.size 49 (pcC (at_ l n)).toArray := by rw [eB]; exact bA.whole rfl
  refine Sat.at (h' := hB) (by rw [eB, eA]; rfl) ?_
  have vB := hr.var.ext xB
  refine Sat.seq ?_
  refine Sat.region rfl ?_
  refine ⟨.slice (some ⟨g, 0, none⟩) l.length c, by rw [vB.cell]; rfl, ?_⟩
  have hlc : l.length ≤ c := by obtain ⟨_, _, e, h⟩ := hr.own.slice; injection e with _ _ e3; omega
  refine ⟨0, n, c, rfl, rfl, rfl, (fun h => nomatch h), by omega, by omega, Nat.le_refl _, some ⟨g, 0, none⟩, n, c, cut0 _ _ _, rfl, rfl, ?_⟩
  refine ⟨rfl, rfl, ⟨_, by rw [vB.cell]; rfl⟩, vB.free 0, ?_⟩
  have s3 := setH_chg hB ⟨bp, 0, none⟩ (.slice (some ⟨g, 0, none⟩) n c)
  have b3 := vB.set 0 (.slice (some ⟨g, 0, none⟩) n c)
  refine Sat.seq ?_
  refine Sat.region rfl ?_
  refine ⟨_, rfl, (bB.chg s3 (fun e => absurd (show h.size = bp from e) (by omega))).row, ?_⟩
  refine Sat.ret ?_
  refine ⟨rfl, (hr.chg.trans (xB.chg _)).trans (s3.mono fun j _ hj => .inl hj), ?_, ?_, hr.ne, hr.lt, by simp; omega⟩
  · rw [List.length_take, Nat.min_eq_left (by omega)]; exact b3
  · have := ((hr.own.ext xB).chg s3 fun g' hg' e => by injection hg' with hg'; have hg' : g = g' := hg'; exact hr.ne (by have e : g' = bp := e; omega)).cut pcC_len rfl (show n ≤ l.length by omega)
    rwa [List.length_take, Nat.min_eq_left (by omega)]
end Go.Proofs.Ytobjkcmiicflmaa
