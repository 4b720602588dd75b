/- bytes.Clone; the queue's next. -/
import Derived.Test.YtiheebgoadmomaaM3
set_option maxRecDepth 100000
set_option linter.unusedVariables false
namespace Go.Proofs.Ytiheebgoadmomaa
open Go Go.V Go.V.Heaps

theorem clone_fn {h : Heap} {v : Value} {bs : List UInt8} (hb : BytesAt h v bs) (hn : bs.length ≤ 1000000000) : FnS Try.prog 19 [v] h fun u h' => Ext h h' ∧ Own h' h.size 5 1 u bs.length (bytesV bs) := by
  obtain ⟨A, c, rfl, hc, hr⟩ := hb
  refine FnS.intro Try.func19 rfl rfl rfl ?_
  refine Sat.seq ?_
  refine Sat.region rfl ?_
  refine Sat.seq ?_
  refine Sat.seq ?_
  refine Sat.region rfl ?_
  refine eq_nil_slice rfl rfl ?_
  cases A with
  | none =>
    refine Sat.cond ?_
    refine Sat.seq ?_
    refine Sat.region rfl ?_
    refine Sat.ret ?_
    have h0 : bs = [] := by
      rcases hr with h | ⟨p, hp, _⟩
      · exact h
      · cases hp
    subst h0
    exact ⟨Ext.refl h, Own.nil _ _ _ _⟩
  | some p =>
    refine Sat.cond ?_
    refine Sat.skip ?_
    refine Sat.seq ?_
    refine Sat.region rfl ?_
    refine lit_zero i26 ?_
    have hx := Ext.push h (.cells #[] 5)
    have ho : Own (h.push (.cells #[] 5)) h.size 5 1 (.slice (some ⟨h.size, 0, none⟩) 0 0) 0 [] := ⟨rfl, .inr ⟨h.size, 0, #[], rfl, Nat.le_refl _, Blk.new h 5 #[], Nat.le_refl _, Nat.zero_le _, rfl, rfl⟩⟩
    refine append_to i26 ho (news := bytesV bs) (by simp [bytesV]) ?_ (bytesV_one bs) (by omega) (by simp) ?_
    · rcases hr with h | ⟨q, hq, hrow⟩
      · subst h; exact .inl rfl
      · exact .inr ⟨q, hq, hrow.ext hx⟩
    · intro v' h2 ho2 hc2 _
      refine Sat.ret ?_
      refine ⟨hx.then_new hc2 fun i hi => ?_, by simpa using ho2⟩
      injection hi with hi
      exact Nat.le_of_eq hi

/-- A placed item's cells. -/
def plC (o : It × Value × Nat) : List Value := itC o.1 o.2.1 ++ [.int .i64 (o.2.2 : Int)]
theorem plC_len (o : It × Value × Nat) : (plC o).length = 10 := rfl
theorem one_it (x : It) {dv : Value} (h : dv.oneCell' = true) : ∀ u ∈ itC x dv, u.oneCell' = true := by
  intro u hu
  simp [itC] at hu
  rcases hu with rfl | rfl | rfl | rfl | rfl | rfl | rfl | rfl | rfl <;> first | rfl | exact h
theorem one_pl (o : It × Value × Nat) (h : o.2.1.oneCell' = true) : ∀ u ∈ plC o, u.oneCell' = true := by
  intro u hu
  rcases List.mem_append.1 hu with hu | hu
  · exact one_it _ h u hu
  · rw [List.mem_singleton.1 hu]; rfl

def le : Src → Src → Prop := srcLe Src.l Src.n It.at_
theorem ord : Order less le := src_order Src.l Src.n It.at_

theorem next_fn {h0 h : Heap} {G : Nat → Prop} {bq : Nat} {q : List Src} {m : Nat} (hr : QRep h0 bq G h q h) (hn : q.length = m + 1) (hok : ∀ s ∈ q, SrcOk h0 s) (hho : HO le q q.length)
    {x : It} {r : List It} (hxr : (at_ q 0).l = x :: r) (hbig : x.data.length ≤ 1000000000) :
    FnS Try.prog 16 [.pointer (some ⟨bq, 0, none⟩)] h fun u h' => ∃ dv q', u = .agg (plC (x, dv, (at_ q 0).n)).toArray ∧ Own h' h.size 5 1 dv x.data.length (bytesV x.data) ∧ QRep h0 bq G h q' h' ∧ (∀ s ∈ q', SrcOk h0 s) ∧ HO le q' q'.length ∧
      ((r = [] ∧ (q' ++ [at_ q 0]).Perm q) ∨ (r ≠ [] ∧ ∃ s', s'.l = r ∧ s'.n = (at_ q 0).n ∧ q'.Perm (q.set 0 s'))) := by
  obtain ⟨hx, hc, hbq, hGb, ⟨v, hb, ho, hg⟩, hfew⟩ := hr
  obtain ⟨s, qt, rfl⟩ : ∃ s qt, q = s :: qt := by
    cases q with
    | nil => cases hn
    | cons s qt => exact ⟨s, qt, rfl⟩
  have hat : at_ (s :: qt) 0 = s := rfl
  rw [hat] at hxr ⊢
  have hlt := hb.lt
  obtain ⟨g, c, rfl, hge, hgl, hrow, hlc⟩ := ho.ptr (by omega)
  have hgne : g ≠ bq := (hg g rfl).2
  have hGg : G g := (hg g rfl).1
  obtain ⟨_, hcap, hitems⟩ := hok s (List.mem_cons_self ..)
  have hlen : s.l.length = r.length + 1 := by rw [hxr]; rfl
  obtain ⟨A, cc, hitrow, hbytes⟩ := hitems 0 x (by rw [hxr]; rfl)
  have hs0 : Row h ((⟨g, 0, none⟩ : Addr).add (0 * 2)) (srcC s) := hrow.elem srcC_len (k := 0) rfl
  have hpb : s.p.block < h0.size := by
    have := cellH_lt (hitrow 0 _ rfl)
    rwa [add_block, add_block] at this
  have hx0 := hx.1
  refine FnS.intro Try.func16 rfl rfl rfl ?_
  refine Sat.seq ?_
  refine Sat.region rfl ?_
  obtain ⟨hA, eA⟩ : ∃ hA, hA = h.push (.cells #[.int .i64 0, .int .i64 0, .slice none 0 0, .int .i64 0, .int .u8 0, .bool false, .bool false, .int .i64 0, .int .i64 0, .int .i64 0] 39) := ⟨_, rfl⟩
  have xA : Ext h hA := by rw [eA]; exact Ext.push h _
  have bA : Blk hA h.size 39 #[.int .i64 0, .int .i64 0, .slice none 0 0, .int .i64 0, .int .u8 0, .bool false, .bool false, .int .i64 0, .int .i64 0, .int .i64 0] := by rw [eA]; exact Blk.new h _ _
  have sA : hA.size = h.size + 1 := by rw [eA, Array.size_push]
  refine Sat.at eA.symm ?_
  refine Sat.seq ?_
  refine Sat.region rfl ?_
  refine ⟨.slice (some ⟨g, 0, none⟩) (s :: qt).length c, by rw [(hb.ext xA).cell]; rfl, ?_⟩
  refine ⟨⟨g, 0, none⟩, 0, rfl, rfl, by simp, ?_⟩
  refine Sat.seq ?_
  refine Sat.drawn (.old hA.size []) rfl (by kernel_rfl) ?_
  have hgA : g < hA.size := by omega
  refine ⟨by decide, hgA, _, ((hs0.ext xA) 0 _ rfl), s.p, 0, rfl, rfl, by omega, ⟨by show ((s.p.add (0 * 9)).block) < hA.size; rw [add_block]; omega, _, rfl, (hitrow.ext hx).ext xA, ?_⟩⟩
  refine ⟨by decide, hgA, _, ((hs0.ext xA) 1 _ rfl), ?_⟩
  refine build_strct rfl rfl rfl (cells := (plC (x, .slice A x.data.length cc, s.n)).toArray) (by kernel_rfl) ?_
  refine ⟨fun k hk => (Ext.push hA _).2 k hk, ?_⟩
  obtain ⟨hB, eB⟩ : ∃ hB, hB = hA.push (.cells #[.int .i64 0, .int .i64 0, .slice none 0 0, .int .i64 0, .int .u8 0, .bool false, .bool false, .int .i64 0, .int .i64 0, .int .i64 0] 39) := ⟨_, rfl⟩
  have xB : Ext hA hB := by rw [eB]; exact Ext.push hA _
  have bB : Blk hB hA.size 39 #[.int .i64 0, .int .i64 0, .slice none 0 0, .int .i64 0, .int .u8 0, .bool false, .bool false, .int .i64 0, .int .i64 0, .int .i64 0] := by rw [eB]; exact Blk.new hA _ _
  refine ⟨rfl, one_pl (x, .slice A x.data.length cc, s.n) rfl, (Blk.new hA 39 #[.int .i64 0, .int .i64 0, .slice none 0 0, .int .i64 0, .int .u8 0, .bool false, .bool false, .int .i64 0, .int .i64 0, .int .i64 0]).okAt (by decide), ?_⟩
  obtain ⟨hC, eC⟩ : ∃ hC, hC = setRow hB ⟨hA.size, 0, none⟩ (plC (x, .slice A x.data.length cc, s.n)) 0 := ⟨_, rfl⟩
  have xC : Ext hA hC := by rw [eC]; exact setRow_new xB (Nat.le_refl _) 0 _
  have bC : Blk hC hA.size 39 (plC (x, .slice A x.data.length cc, s.n)).toArray := by rw [eC]; exact bB.whole rfl
  have xhC := xA.trans xC
  refine Sat.at (h' := hC) (by rw [eC, eB]; rfl) ?_
  refine Sat.seq ?_
  refine Sat.region rfl ?_
  refine ⟨by decide, by decide, .slice A x.data.length cc, bC.cell 2, ?_⟩
  refine (clone_fn (bs := x.data) ((hbytes.ext hx).ext xhC) hbig).mono ?_
  rintro dv hD ⟨xD, oD⟩
  have bD := bC.ext xD
  refine ⟨by decide, by decide, rfl, ?_, ⟨_, bD.cell 2⟩, bD.free 2, ?_⟩
  · obtain ⟨_, _, rfl, _⟩ := oD.slice; rfl
  obtain ⟨hE, eE⟩ : ∃ hE, hE = setH hD ⟨hA.size, 2, none⟩ dv := ⟨_, rfl⟩
  have xE : Ext hA hE := by rw [eE]; exact setH_new (xC.trans xD) (Nat.le_refl _) _ _
  have xhE := xA.trans xE
  have bE : Blk hE hA.size 39 (plC (x, dv, s.n)).toArray := by rw [eE]; exact bD.set 2 dv
  have oE : Own hE h.size 5 1 dv x.data.length (bytesV x.data) := by
    rw [eE]
    refine (oD.mono xhC.1).chg (setH_chg _ _ _) fun g' hg' => ?_
    have := (oD.base_le g' hg').1
    have := bC.lt
    simp only
    omega
  refine Sat.at (h' := hE) (by rw [eE]; rfl) ?_
  refine Sat.cut (X := List Src) (fun _ => [(2, .pointer (some ⟨h.size, 0, none⟩)), (4, .pointer (some ⟨hA.size, 0, none⟩))])
    (fun q' h' => QRep h0 bq G h q' h' ∧ Blk h' hA.size 39 (plC (x, dv, s.n)).toArray ∧ Blk h' h.size 39 #[.int .i64 0, .int .i64 0, .slice none 0 0, .int .i64 0, .int .u8 0, .bool false, .bool false, .int .i64 0, .int .i64 0, .int .i64 0] ∧
      Own h' h.size 5 1 dv x.data.length (bytesV x.data) ∧ (∀ s ∈ q', SrcOk h0 s) ∧ HO le q' q'.length ∧ ((r = [] ∧ (q' ++ [s]).Perm (s :: qt)) ∨ (r ≠ [] ∧ ∃ s', s'.l = r ∧ s'.n = s.n ∧ q'.Perm ((s :: qt).set 0 s')))) ?_ ?_
  rotate_left
  · rintro q' h' ⟨hq, b1, b2, od, okq, hoq, hcase⟩
    refine Sat.seq ?_
    refine Sat.region rfl ?_
    refine ⟨_, rfl, b1.row, ?_⟩
    refine ⟨rfl, one_pl (x, dv, s.n) ?_, b2.okAt (by decide), ?_⟩
    · obtain ⟨_, _, rfl, _⟩ := od.slice; rfl
    have sZ := setRow_chg ⟨h.size, 0, none⟩ (plC (x, dv, s.n)) 0 h'
    have b3 := b2.whole (vs := plC (x, dv, s.n)) rfl
    refine Sat.ret ?_
    refine ⟨_, rfl, b3.row, ?_⟩
    obtain ⟨a1, a2, a3, a4, ⟨v', a5, a6, a7⟩, a8⟩ := hq
    refine ⟨dv, q', rfl, ?_, ?_, okq, hoq, hcase⟩
    · refine od.chg sZ fun g' hg' e => ?_
      simp only at e
      subst e
      obtain ⟨cur, hcur⟩ := od.tag hg'
      exact absurd (b2.tag hcur) (by decide)
    · refine ⟨a1.then_new sZ (fun i hi => by subst hi; exact hx0), a2.then_new sZ (fun i hi => by subst hi; exact Nat.le_refl _), a3, a4, ⟨v', a5.chg sZ (fun e => by simp only at e; omega), a6.chg sZ (fun g' hg' e => ?_), a7⟩, a8⟩
      simp only at e
      subst e
      obtain ⟨cur, hcur⟩ := a6.tag hg'
      exact absurd (b2.tag hcur) (by decide)
  refine Sat.seq ?_
  refine Sat.region rfl ?_
  refine ⟨by decide, .slice (some s.p) s.l.length s.cap, ((hs0.ext xhE) 0 _ rfl), ?_⟩
  refine ⟨1, s.l.length, s.cap, rfl, rfl, rfl, (fun h => nomatch h), by omega, by omega, Nat.le_refl _, _, r.length, s.cap - 1, rfl, by omega, rfl, ?_⟩
  have boE := ho.ext xhE
  have bqE := hb.ext xhE
  have okE := boE.cells srcC_len rfl (k := 0) (by simp) 0 (by decide)
  refine ⟨by decide, rfl, rfl, okE.1, okE.2, ?_⟩
  -- the source as it is now
  obtain ⟨s', hs'⟩ : ∃ s' : Src, s' = ⟨(if s.cap = 1 then s.p else s.p.add (1 * 9)), s.cap - 1, r, s.n⟩ := ⟨_, rfl⟩
  have hsp : (if s.cap = 1 then some s.p else Option.map (fun x => x.add (1 * 9)) (some s.p)) = some s'.p := by rw [hs']; split <;> rfl
  rw [hsp]
  obtain ⟨hF, eF⟩ : ∃ hF, hF = setH hE ⟨g, 0, none⟩ (.slice (some s'.p) r.length (s.cap - 1)) := ⟨_, rfl⟩
  have sF := setH_chg hE ⟨g, 0, none⟩ (.slice (some s'.p) r.length (s.cap - 1))
  rw [← eF] at sF
  have oF : Own hF h0.size 55 2 (.slice (some ⟨g, 0, none⟩) (s :: qt).length c) (s :: qt).length ((s' :: qt).flatMap srcC) := by
    have := boE.putCell (i := 0) (by simp) (.slice (some s'.p) r.length (s.cap - 1))
    rw [← eF] at this
    have e : ((s' :: qt).flatMap srcC) = ((s :: qt).flatMap srcC).set 0 (.slice (some s'.p) r.length (s.cap - 1)) := by
      rw [hs']; rfl
    rw [e]; exact this
  have hgA2 : g ≠ hA.size := by omega
  have bF : Blk hF hA.size 39 (plC (x, dv, s.n)).toArray := bE.chg sF (fun e => hgA2 e.symm)
  have bqF : Blk hF bq 51 #[.slice (some ⟨g, 0, none⟩) (s :: qt).length c] := bqE.chg sF (fun e => hgne e.symm)
  have cF : Chg G h hF := (xhE.chg G).trans (sF.mono fun k _ hk => by subst hk; exact hGg)
  have dF : Own hF h.size 5 1 dv x.data.length (bytesV x.data) := oE.chg sF fun g' hg' e => by
    have := (oE.base_le g' hg').1
    simp only at e
    omega
  have b2F : Blk hF h.size 39 #[.int .i64 0, .int .i64 0, .slice none 0 0, .int .i64 0, .int .u8 0, .bool false, .bool false, .int .i64 0, .int .i64 0, .int .i64 0] := (bA.ext xE).chg sF (fun e => by simp only at e; omega)
  have qF : QRep h0 bq (fun k => k = bq ∨ k = g) hF (s' :: qt) hF := by
    refine ⟨(hx.trans xhE).then_new sF (fun i hi => by subst hi; exact hge), Chg.refl _ _, hbq, .inl rfl, ⟨_, bqF, oF, fun g' hg' => ?_⟩, hfew⟩
    injection hg' with hg'
    subst hg'
    exact ⟨.inr rfl, hgne⟩
  have okF : ∀ k, 0 < k → k < (s' :: qt).length → SrcOk h0 (at_ (s' :: qt) k) := fun k hk hkl => by
    obtain ⟨j, rfl⟩ : ∃ j, k = j + 1 := ⟨k - 1, by omega⟩
    refine hok _ (List.mem_cons_of_mem _ ?_)
    simp only [at_, List.getD_cons_succ]
    exact List.mem_of_getElem? (at_get (by simpa using hkl))
  refine Sat.at (h' := hF) (by rw [eF]; rfl) ?_
  have fin : ∀ q' h', QRep h0 bq (fun k => k = bq ∨ k = g) hF q' h' → QRep h0 bq G h q' h' ∧ Blk h' hA.size 39 (plC (x, dv, s.n)).toArray ∧ Blk h' h.size 39 #[.int .i64 0, .int .i64 0, .slice none 0 0, .int .i64 0, .int .u8 0, .bool false, .bool false, .int .i64 0, .int .i64 0, .int .i64 0] ∧
      Own h' h.size 5 1 dv x.data.length (bytesV x.data) := by
    rintro q' h' ⟨a1, a2, a3, a4, ⟨v', a5, a6, a7⟩, a8⟩
    refine ⟨⟨a1, cF.trans (a2.mono fun k _ hk => ?_), a3, hGb, ⟨v', a5, a6, fun g' hg' => ?_⟩, a8⟩, bF.chg a2 (by omega), b2F.chg a2 (by omega), dF.chg a2 fun g' hg' e => ?_⟩
    · rcases hk with rfl | rfl
      · exact hGb
      · exact hGg
    · obtain ⟨e, hne⟩ := a7 g' hg'
      rcases e with rfl | rfl
      · exact absurd rfl hne
      · exact ⟨hGg, hne⟩
    · have := (dF.base_le g' hg').1
      omega
  refine Sat.seq ?_
  refine Sat.region rfl ?_
  have cel : cellH hF (((⟨g, 0, none⟩ : Addr).add (0 * 2)).add 0) = some (.slice (some s'.p) r.length (s.cap - 1)) := by
    have hrow' := (oF.ptr (by simp))
    obtain ⟨g2, c2, e2, _, _, hrow2, _⟩ := hrow'
    injection e2 with e2
    injection e2 with e2
    injection e2 with e2
    subst e2
    have := hrow2.elem srcC_len (k := 0) (x := s') rfl 0 (.slice (some s'.p) s'.l.length s'.cap) rfl
    rw [this, hs']
  refine ⟨by decide, _, cel, rfl, fun h0' => ?_, fun h0' => ?_⟩
  · have hr0 : r = [] := List.eq_nil_of_length_eq_zero (by omega)
    refine Sat.cond ?_
    refine Sat.region rfl ?_
    have hm : (s' :: qt).length = m + 1 := hn
    refine (pop_fn (queue_iface h0 bq (fun k => k = bq ∨ k = g) hF) qF hm okF (R := fun _ h' => QRep h0 bq (fun k => k = bq ∨ k = g) hF ((down less (swp (s' :: qt) 0 m) 0 m).1.take m) h') ?_).mono ?_
    · intro l' h' hq' hl' hd'
      rw [← hd']
      exact pop_m hq' hl'
    · intro u h' hq'
      have hpp := pop_perm (less := less) hm
      have hsub : ((down less (swp (s' :: qt) 0 m) 0 m).1.take m).Perm qt := by
        have : ((down less (swp (s' :: qt) 0 m) 0 m).1.take m ++ [s']).Perm (qt ++ [s']) := hpp.trans (List.perm_append_singleton s' qt).symm
        exact (List.perm_append_right_iff _).1 this
      obtain ⟨f1, f2, f3, f4⟩ := fin _ _ hq'
      refine ⟨_, ⟨rfl, rfl, trivial⟩, f1, f2, f3, f4, fun t ht => hok t (List.mem_cons_of_mem _ (hsub.mem_iff.1 ht)), ?_, .inl ⟨hr0, ?_⟩⟩
      · have := pop_heap ord hm (l := s' :: qt) (n := m) fun k hk hkl hne => ?_
        · have e : ((down less (swp (s' :: qt) 0 m) 0 m).1.take m).length = m := by rw [hsub.length_eq]; simpa using hn
          rw [e]; exact this
        · have := hho k hk hkl
          obtain ⟨j, rfl⟩ : ∃ j, k = j + 1 := ⟨k - 1, by omega⟩
          obtain ⟨i, hi⟩ : ∃ i, (j + 1 - 1) / 2 = i + 1 := ⟨(j + 1 - 1) / 2 - 1, by omega⟩
          rw [hi] at this ⊢
          exact this
      · exact (List.Perm.append_right [s] hsub).trans (List.perm_append_singleton s qt)
  · have hr0 : r ≠ [] := fun e => h0' (by rw [e]; rfl)
    have hsp2 : s'.p = s.p.add (1 * 9) := by
      have hrl : 0 < r.length := List.length_pos_iff.2 hr0
      rw [hs']
      simp only
      rw [if_neg (by omega)]
    have ok' : SrcOk h0 s' := by
      refine ⟨by rw [hs']; exact hr0, by rw [hs']; simp only; omega, ?_⟩
      rw [hsp2]
      have : s'.l = r := by rw [hs']
      rw [this]
      rw [hxr] at hitems
      exact hitems.tail
    have okF' : ∀ k, k < (s' :: qt).length → SrcOk h0 (at_ (s' :: qt) k) := fun k hk => by
      cases k with
      | zero => exact ok'
      | succ k => exact okF _ (by omega) hk
    refine Sat.cond ?_
    refine Sat.region rfl ?_
    refine (fix_fn (queue_iface h0 bq (fun k => k = bq ∨ k = g) hF) qF (by simp) okF').mono ?_
    intro u h' hq'
    have hpp := down_perm less (s' :: qt).length _ (s' :: qt) 0 rfl (Nat.le_refl _)
    obtain ⟨f1, f2, f3, f4⟩ := fin _ _ hq'
    refine ⟨_, ⟨rfl, rfl, trivial⟩, f1, f2, f3, f4, fun t ht => ?_, ?_, .inr ⟨hr0, s', by rw [hs'], by rw [hs'], hpp⟩⟩
    · rcases List.mem_cons.1 (hpp.mem_iff.1 ht) with rfl | h1
      · exact ok'
      · exact hok t (List.mem_cons_of_mem _ h1)
    · have := fix_heap ord (x := s') hho
      have e : (down less (s' :: qt) 0 (s' :: qt).length).1.length = (s :: qt).length := by rw [hpp.length_eq]; rfl
      rw [e]
      exact this
end Go.Proofs.Ytiheebgoadmomaa
