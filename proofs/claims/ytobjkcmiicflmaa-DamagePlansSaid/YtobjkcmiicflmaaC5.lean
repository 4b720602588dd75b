/- Breaking patterns: some are swapped. -/
import Derived.Test.YtobjkcmiicflmaaC3
set_option maxRecDepth 100000
set_option linter.unusedVariables false
namespace Go.Proofs.Ytobjkcmiicflmaa
open Go Go.V Go.V.Heaps

theorem wrap_u64 {n : Int} (h1 : 0 ≤ n) (h2 : n < 18446744073709551616) : IntKind.u64.wrap n = n := by
  have : IntKind.u64.wrap n = n % 18446744073709551616 := by simp [IntKind.wrap, IntKind.bits, IntKind.signed]
  rw [this]; omega
theorem and_le (x : Int) (b : Nat) (hb : b < 18446744073709551616) : ∃ r : Nat, bitsOf .and .u64 x (b : Int) = (r : Int) ∧ r ≤ b := by
  have hr : (BitVec.ofInt 64 x &&& BitVec.ofInt 64 (b : Int)).toNat ≤ b := by
    rw [BitVec.toNat_and]
    have : (BitVec.ofInt 64 (b : Int)).toNat = b := by
      simp
      omega
    rw [this]
    exact Nat.and_le_right
  have hr' : (BitVec.ofInt IntKind.u64.bits x &&& BitVec.ofInt IntKind.u64.bits (b : Int)).toNat ≤ b := hr
  refine ⟨(BitVec.ofInt IntKind.u64.bits x &&& BitVec.ofInt IntKind.u64.bits (b : Int)).toNat, ?_, hr'⟩
  generalize hv : (BitVec.ofInt IntKind.u64.bits x &&& BitVec.ofInt IntKind.u64.bits (b : Int)).toNat = v at *
  show IntKind.u64.wrap ((BitVec.ofInt IntKind.u64.bits x &&& BitVec.ofInt IntKind.u64.bits (b : Int)).toNat : Int) = _
  rw [hv]
  exact wrap_u64 (by omega) (by omega)

theorem xnext_fn {h : Heap} {bX : Nat} {z : Int} (hz : Blk h bX 105 #[.int .u64 z]) : FnS Try.prog 58 [.pointer (some ⟨bX, 0, none⟩)] h fun u h' => ∃ z', u = .int .u64 z' ∧ Chg (fun k => k = bX) h h' ∧ Blk h' bX 105 #[.int .u64 z'] := by
  refine FnS.intro Try.func58 rfl rfl rfl ?_
  refine Sat.seq ?_
  refine Sat.region rfl ?_
  refine Sat.seq ?_
  refine Sat.drawn .plain rfl (by kernel_rfl) ?_
  refine ⟨.int .u64 z, hz.cell 0, .int .u64 z, hz.cell 0, by decide, _, rfl, rfl, _, rfl, ?_⟩
  refine ⟨rfl, rfl, ⟨_, hz.cell 0⟩, hz.free 0, ?_⟩
  have b1 := hz.set 0 (.int .u64 (bitsOf .xor .u64 z (IntKind.u64.wrap (z * 2 ^ (min (13 : Int).toNat IntKind.u64.bits)))))
  have c1 := setH_chg h ⟨bX, 0, none⟩ (.int .u64 (bitsOf .xor .u64 z (IntKind.u64.wrap (z * 2 ^ (min (13 : Int).toNat IntKind.u64.bits)))))
  generalize bitsOf .xor .u64 z (IntKind.u64.wrap (z * 2 ^ (min (13 : Int).toNat IntKind.u64.bits))) = z1 at *
  generalize setH h ⟨bX, 0, none⟩ (.int .u64 z1) = h1 at *
  refine Sat.seq ?_
  refine Sat.drawn .plain rfl (by kernel_rfl) ?_
  refine ⟨.int .u64 z1, b1.cell 0, .int .u64 z1, b1.cell 0, by decide, _, rfl, rfl, _, rfl, ?_⟩
  refine ⟨rfl, rfl, ⟨_, b1.cell 0⟩, b1.free 0, ?_⟩
  have b2 := b1.set 0 (.int .u64 (bitsOf .xor .u64 z1 (z1.fdiv (2 ^ (min (7 : Int).toNat IntKind.u64.bits)))))
  have c2 := setH_chg h1 ⟨bX, 0, none⟩ (.int .u64 (bitsOf .xor .u64 z1 (z1.fdiv (2 ^ (min (7 : Int).toNat IntKind.u64.bits)))))
  generalize bitsOf .xor .u64 z1 (z1.fdiv (2 ^ (min (7 : Int).toNat IntKind.u64.bits))) = z2 at *
  generalize setH h1 ⟨bX, 0, none⟩ (.int .u64 z2) = h2 at *
  refine Sat.seq ?_
  refine Sat.drawn .plain rfl (by kernel_rfl) ?_
  refine ⟨.int .u64 z2, b2.cell 0, .int .u64 z2, b2.cell 0, by decide, _, rfl, rfl, _, rfl, ?_⟩
  refine ⟨rfl, rfl, ⟨_, b2.cell 0⟩, b2.free 0, ?_⟩
  have b3 := b2.set 0 (.int .u64 (bitsOf .xor .u64 z2 (IntKind.u64.wrap (z2 * 2 ^ (min (17 : Int).toNat IntKind.u64.bits)))))
  have c3 := setH_chg h2 ⟨bX, 0, none⟩ (.int .u64 (bitsOf .xor .u64 z2 (IntKind.u64.wrap (z2 * 2 ^ (min (17 : Int).toNat IntKind.u64.bits)))))
  generalize bitsOf .xor .u64 z2 (IntKind.u64.wrap (z2 * 2 ^ (min (17 : Int).toNat IntKind.u64.bits))) = z3 at *
  generalize setH h2 ⟨bX, 0, none⟩ (.int .u64 z3) = h3 at *
  refine Sat.seq ?_
  refine Sat.region rfl ?_
  refine ⟨.int .u64 z3, b3.cell 0, ?_⟩
  refine Sat.ret ?_
  exact ⟨z3, rfl, c1.trans (c2.trans c3), b3⟩

def tbl : ByteArray := ⟨(([0, 1, 2, 2, 3, 3, 3, 3, 4, 4, 4, 4, 4, 4, 4, 4, 5, 5, 5, 5, 5, 5, 5, 5, 5, 5, 5, 5, 5, 5, 5, 5, 6, 6, 6, 6, 6, 6, 6, 6, 6, 6, 6, 6, 6, 6, 6, 6, 6, 6, 6, 6, 6, 6, 6, 6, 6, 6, 6, 6, 6, 6, 6, 6].append [7, 7, 7, 7, 7, 7, 7, 7, 7, 7, 7, 7, 7, 7, 7, 7, 7, 7, 7, 7, 7, 7, 7, 7, 7, 7, 7, 7, 7, 7, 7, 7, 7, 7, 7, 7, 7, 7, 7, 7, 7, 7, 7, 7, 7, 7, 7, 7, 7, 7, 7, 7, 7, 7, 7, 7, 7, 7, 7, 7, 7, 7, 7, 7]).append ([8, 8, 8, 8, 8, 8, 8, 8, 8, 8, 8, 8, 8, 8, 8, 8, 8, 8, 8, 8, 8, 8, 8, 8, 8, 8, 8, 8, 8, 8, 8, 8, 8, 8, 8, 8, 8, 8, 8, 8, 8, 8, 8, 8, 8, 8, 8, 8, 8, 8, 8, 8, 8, 8, 8, 8, 8, 8, 8, 8, 8, 8, 8, 8].append [8, 8, 8, 8, 8, 8, 8, 8, 8, 8, 8, 8, 8, 8, 8, 8, 8, 8, 8, 8, 8, 8, 8, 8, 8, 8, 8, 8, 8, 8, 8, 8, 8, 8, 8, 8, 8, 8, 8, 8, 8, 8, 8, 8, 8, 8, 8, 8, 8, 8, 8, 8, 8, 8, 8, 8, 8, 8, 8, 8, 8, 8, 8, 8])).toArray⟩
def lenT (n : Nat) : Nat := if n = 0 then 0 else Nat.log2 n + 1
theorem len64_fn {h : Heap} {n : Nat} (hn : n ≤ 40) : FnS Try.prog 49 [.int .u64 (n : Int)] h fun u h' => u = .int .i64 (lenT n : Int) ∧ h' = h := by
  refine FnS.intro Try.func49 rfl rfl rfl ?_
  refine Sat.seq ?_
  refine Sat.region rfl ?_
  refine Sat.seq ?_
  refine Sat.seq ?_
  refine Sat.region rfl ?_
  refine ⟨rfl, fun h1 => absurd h1 (by omega), fun _ => ?_⟩
  refine Sat.cond ?_
  refine Sat.skip ?_
  refine Sat.seq ?_
  refine Sat.seq ?_
  refine Sat.region rfl ?_
  refine ⟨rfl, fun h1 => absurd h1 (by omega), fun _ => ?_⟩
  refine Sat.cond ?_
  refine Sat.skip ?_
  refine Sat.seq ?_
  refine Sat.seq ?_
  refine Sat.region rfl ?_
  refine ⟨rfl, fun h1 => absurd h1 (by omega), fun _ => ?_⟩
  refine Sat.cond ?_
  refine Sat.skip ?_
  refine Sat.seq ?_
  refine Sat.region rfl ?_
  refine ⟨(n : Int), ?_, ?_⟩
  · have : IntKind.u8.wrap (n : Int) = (n : Int) % 256 := by simp [IntKind.wrap, IntKind.bits, IntKind.signed]
    rw [this]; omega
  have hk : ∃ c : UInt8, c.toNat = lenT n ∧ tbl[n]? = some c := by
    have key : ∀ n : Nat, n < 41 → (match tbl[n]? with | some c => Nat.beq c.toNat (lenT n) | none => false) = true := by decide +kernel
    have := key n (by omega)
    cases ht : tbl[n]? with
    | none => rw [ht] at this; cases this
    | some c => rw [ht] at this; exact ⟨c, Nat.eq_of_beq_eq_true this, rfl⟩
  obtain ⟨c, hc, ht⟩ := hk
  refine ⟨n, c, rfl, ht, ?_⟩
  have hl : lenT n < 256 := by rw [← hc]; exact c.toNat_lt
  refine ⟨(lenT n : Int), by rw [hc]; exact wrap_i64 (by omega) (by omega), ?_⟩
  refine ⟨rfl, (lenT n : Int), by rw [wrap_i64 (by omega) (by omega)]; omega, ?_⟩
  refine Sat.ret ?_
  exact ⟨rfl, rfl⟩

theorem len_fn {h : Heap} {n : Nat} (hn : n ≤ 40) : FnS Try.prog 32 [.int .u64 (n : Int)] h fun u h' => u = .int .i64 (lenT n : Int) ∧ h' = h := by
  refine FnS.intro Try.func32 rfl rfl rfl ?_
  refine Sat.seq ?_
  refine Sat.region rfl ?_
  refine Sat.seq ?_
  refine Sat.cond ?_
  refine Sat.skip ?_
  refine Sat.seq ?_
  refine Sat.region rfl ?_
  refine (len64_fn hn).mono ?_
  rintro u h1 ⟨rfl, rfl⟩
  refine Sat.ret ?_
  exact ⟨rfl, rfl⟩

theorem pow_fn {h : Heap} {n : Nat} (hn : n ≤ 40) (h0 : 1 ≤ n) : FnS Try.prog 57 [.int .i64 (n : Int)] h fun u h' => (∃ m : Nat, u = .int .u64 (m : Int) ∧ 1 ≤ m ∧ m ≤ 2 * n) ∧ h' = h := by
  refine FnS.intro Try.func57 rfl rfl rfl ?_
  refine Sat.seq ?_
  refine Sat.region rfl ?_
  refine Sat.seq ?_
  refine Sat.region rfl ?_
  refine ⟨(n : Int), wrap_u64 (by omega) (by omega), ?_⟩
  refine (len_fn hn).mono ?_
  rintro u h1 ⟨rfl, rfl⟩
  have key : ∀ n : Nat, n < 41 → n = 0 ∨ (min ((lenT n : Int)).toNat IntKind.u64.bits = lenT n ∧ 1 ≤ 2 ^ lenT n ∧ 2 ^ lenT n ≤ 2 * n) := by decide +kernel
  obtain ⟨e, k1, k2⟩ : min ((lenT n : Int)).toNat IntKind.u64.bits = lenT n ∧ 1 ≤ 2 ^ lenT n ∧ 2 ^ lenT n ≤ 2 * n := by
    rcases key n (by omega) with h | h
    · omega
    · exact h
  refine ⟨by omega, ((2 ^ lenT n : Nat) : Int), ?_, ?_⟩
  · rw [e]
    have : (1 : Int) * 2 ^ lenT n = ((2 ^ lenT n : Nat) : Int) := by simp
    rw [this]
    generalize 2 ^ lenT n = m at *
    exact wrap_u64 (by omega) (by omega)
  refine Sat.ret ?_
  exact ⟨⟨2 ^ lenT n, rfl, k1, k2⟩, rfl⟩

theorem break_fn {h : Heap} {g c : Nat} {l : List Pc} (hs : SS h g c l h) {a b : Nat} (hab : a + 12 < b) (h40 : b - a ≤ 40) (hb : b ≤ l.length) :
    FnS Try.prog 42 [.slice (some ⟨g, 0, none⟩) l.length c, .int .i64 (a : Int), .int .i64 (b : Int), cmpV] h fun _ h' => ∃ l', SS h g c l' h' ∧ PO l l' a b := by
  have hfew := hs.few
  refine FnS.intro Try.func42 rfl rfl rfl ?_
  refine Sat.seq ?_
  refine Sat.region rfl ?_
  refine ⟨rfl, ((b - a : Nat) : Int), by rw [wrap_i64 (by omega) (by omega)]; omega, ?_⟩
  refine Sat.seq ?_
  refine Sat.region rfl ?_
  refine ⟨rfl, fun _ => ?_, fun h1 => absurd h1 (by omega)⟩
  refine Sat.cond ?_
  refine Sat.seq ?_
  refine Sat.region rfl ?_
  refine ⟨((b - a : Nat) : Int), wrap_u64 (by omega) (by omega), ?_⟩
  obtain ⟨hA, eA⟩ : ∃ hA, hA = h.push (.cells #[.int .u64 0] 105) := ⟨_, rfl⟩
  have xA : Ext h hA := by rw [eA]; exact Ext.push h _
  have bA : Blk hA h.size 105 #[.int .u64 0] := by rw [eA]; exact Blk.new h _ _
  refine ⟨rfl, rfl, ⟨_, (Blk.new h 105 #[.int .u64 0]).cell 0⟩, (Blk.new h 105 #[.int .u64 0]).free 0, ?_⟩
  obtain ⟨hB, eB⟩ : ∃ hB, hB = setH hA ⟨h.size, 0, none⟩ (.int .u64 ((b - a : Nat) : Int)) := ⟨_, rfl⟩
  have xB : Ext h hB := by rw [eB]; exact setH_new xA (Nat.le_refl _) _ _
  have bB : Blk hB h.size 105 #[.int .u64 ((b - a : Nat) : Int)] := by rw [eB]; exact bA.set 0 _
  refine Sat.at (h' := hB) (by rw [eB, eA]; rfl) ?_
  refine Sat.seq ?_
  refine Sat.region rfl ?_
  refine (pow_fn h40 (by omega)).mono ?_
  rintro u h1 ⟨⟨m, rfl, hm1, hm2⟩, rfl⟩
  refine Sat.seq ?_
  refine Sat.region rfl ?_
  refine ⟨rfl, by decide, _, quoI (k := 4) (by omega) (by decide), rfl, (((b - a) / 4 * 2 : Nat) : Int), by rw [wrap_i64 (by omega) (by omega)]; omega, rfl, ((a + (b - a) / 4 * 2 : Nat) : Int), by rw [wrap_i64 (by omega) (by omega)]; omega, rfl, ((a + (b - a) / 4 * 2 - 1 : Nat) : Int), by rw [wrap_i64 (by omega) (by omega)]; omega, ?_⟩
  refine Sat.block ?_
  refine Sat.loop (X := Nat × List Pc) (fun x => [(0, .slice (some ⟨g, 0, none⟩) l.length c), (1, .int .i64 (a : Int)), (8, .int .i64 ((b - a : Nat) : Int)), (9, .pointer (some ⟨h.size, 0, none⟩)), (10, .int .u64 (m : Int)), (11, .int .i64 (x.1 : Int))])
    (fun x h' => SS h g c x.2 h' ∧ PO l x.2 a b ∧ a ≤ x.1 ∧ (∃ z, Blk h' h.size 105 #[.int .u64 z])) (fun x => a + (b - a) / 4 * 2 + 2 - x.1) (a + (b - a) / 4 * 2 - 1, l) ⟨rfl, rfl, rfl, rfl, rfl, rfl, trivial⟩
    ⟨hs.ext xB, PO.refl _ _ _, by simp only; omega, _, bB⟩ ?_
  rintro ⟨i, l1⟩ h1 ⟨s1, p1, hai, z, bz⟩
  simp only at s1 p1 hai ⊢
  have hl1 := p1.len
  refine Sat.seq ?_
  refine Sat.seq ?_
  refine Sat.region rfl ?_
  refine ⟨rfl, by decide, _, quoI (k := 4) (by omega) (by decide), rfl, (((b - a) / 4 * 2 : Nat) : Int), by rw [wrap_i64 (by omega) (by omega)]; omega, rfl, ((a + (b - a) / 4 * 2 : Nat) : Int), by rw [wrap_i64 (by omega) (by omega)]; omega, rfl, ((a + (b - a) / 4 * 2 + 1 : Nat) : Int), by rw [wrap_i64 (by omega) (by omega)]; omega, ?_⟩
  refine ⟨rfl, fun h2 => ?_, fun h2 => ?_⟩
  rotate_left
  · refine Sat.cond ?_
    refine Sat.exit ?_
    exact ⟨l1, s1, p1⟩
  have hib : i ≤ a + (b - a) / 4 * 2 + 1 := by omega
  refine Sat.cond ?_
  refine Sat.skip ?_
  have hgh : g < h.size := hs.lt
  refine Sat.cut (X := List Pc) (fun _ => [(0, .slice (some ⟨g, 0, none⟩) l.length c), (1, .int .i64 (a : Int)), (8, .int .i64 ((b - a : Nat) : Int)), (9, .pointer (some ⟨h.size, 0, none⟩)), (10, .int .u64 (m : Int)), (11, .int .i64 (i : Int))])
    (fun l2 h' => SS h g c l2 h' ∧ PO l l2 a b ∧ (∃ z, Blk h' h.size 105 #[.int .u64 z])) ?_ ?_
  rotate_left
  · rintro l2 h2' ⟨s2, p2, bz2⟩
    refine Sat.region rfl ?_
    refine ⟨rfl, ((i + 1 : Nat) : Int), by rw [wrap_i64 (by omega) (by omega)]; omega, ?_⟩
    exact ⟨(i + 1, l2), ⟨rfl, rfl, rfl, rfl, rfl, rfl, trivial⟩, ⟨s2, p2, by simp only; omega, bz2⟩, by simp only; omega⟩
  refine Sat.block ?_
  refine Sat.seq ?_
  refine Sat.region rfl ?_
  refine (xnext_fn bz).mono ?_
  rintro u h2' ⟨z', rfl, c2, bz2⟩
  have s2 : SS h g c l1 h2' := ⟨s1.own.chg c2 (fun g' hg' e => by injection hg' with hg'; have hg' : g = g' := hg'; omega), s1.chg.then_new c2 (fun k hk => by subst hk; exact Nat.le_refl _), s1.lt, s1.few⟩
  obtain ⟨r, hr, hrm⟩ := and_le z' (m - 1) (by omega)
  refine ⟨rfl, ((m - 1 : Nat) : Int), by rw [wrap_u64 (by omega) (by omega)]; omega, rfl, _, hr, ?_⟩
  refine ⟨(r : Int), wrap_i64 (by omega) (by omega), ?_⟩
  refine Sat.cut (X := Nat) (fun o => [(0, .slice (some ⟨g, 0, none⟩) l.length c), (1, .int .i64 (a : Int)), (8, .int .i64 ((b - a : Nat) : Int)), (9, .pointer (some ⟨h.size, 0, none⟩)), (10, .int .u64 (m : Int)), (11, .int .i64 (i : Int)), (12, .int .i64 (o : Int))])
    (fun o h' => h' = h2' ∧ o < b - a) ?_ ?_
  · refine Sat.seq ?_
    refine Sat.region rfl ?_
    refine ⟨rfl, fun h3 => ?_, fun h3 => ?_⟩
    · refine Sat.cond ?_
      refine Sat.region rfl ?_
      refine ⟨rfl, ((r - (b - a) : Nat) : Int), by rw [wrap_i64 (by omega) (by omega)]; omega, ?_⟩
      exact ⟨r - (b - a), ⟨rfl, rfl, rfl, rfl, rfl, rfl, rfl, trivial⟩, rfl, by omega⟩
    · refine Sat.cond ?_
      refine Sat.skip ?_
      exact ⟨r, ⟨rfl, rfl, rfl, rfl, rfl, rfl, rfl, trivial⟩, rfl, by omega⟩
  rintro o h3 ⟨rfl, ho⟩
  refine Sat.drawn .plain rfl (by kernel_rfl) ?_
  refine ⟨rfl, ((a + o : Nat) : Int), by rw [wrap_i64 (by omega) (by omega)]; omega, rfl, ((a + o : Nat) : Int), by rw [wrap_i64 (by omega) (by omega)]; omega, ?_⟩
  refine ⟨⟨g, 0, none⟩, a + o, rfl, rfl, by omega, _, rfl, s2.row (k := a + o) (by omega), ⟨g, 0, none⟩, i, rfl, rfl, by omega, _, rfl, s2.row (k := i) (by omega), ?_⟩
  refine ⟨⟨g, 0, none⟩, i, rfl, rfl, by omega, rfl, one_pc _, s2.cells (k := i) (by omega), ?_⟩
  refine ⟨⟨g, 0, none⟩, a + o, rfl, rfl, by omega, rfl, one_pc _, s2.cells2 (i := i) (k := a + o) (by omega) (by omega) _, ?_⟩
  have s5 := s2.swap (i := i) (k := a + o) (by omega) (by omega)
  refine ⟨_, ⟨rfl, rfl, rfl, rfl, rfl, rfl, trivial⟩, s5, p1.trans (PO.swp (by omega) (by omega) (by omega)), z', ?_⟩
  refine (bz2.chg (setRow_chg _ _ _ _) ?_).chg (setRow_chg _ _ _ _) ?_
  · rw [add_block]; exact fun e => absurd (show h.size = g from e) (by omega)
  · rw [add_block]; exact fun e => absurd (show h.size = g from e) (by omega)
end Go.Proofs.Ytobjkcmiicflmaa
