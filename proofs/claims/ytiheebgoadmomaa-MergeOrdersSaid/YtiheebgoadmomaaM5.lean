/- Merge. -/
import Derived.Test.YtiheebgoadmomaaM4
set_option maxRecDepth 100000
set_option linter.unusedVariables false
namespace Go.Proofs.Ytiheebgoadmomaa
open Go Go.V Go.V.Heaps

theorem i31 : slInfo Try.prog 31 = some (39, 10, .agg #[.int .i64 0, .int .i64 0, .slice none 0 0, .int .i64 0, .int .u8 0, .bool false, .bool false, .int .i64 0, .int .i64 0, .int .i64 0], 80) := by kernel_rfl

theorem QRep.keep {h0 h1 h h' : Heap} {bq : Nat} {G T : Nat → Prop} {l : List Src} (hr : QRep h0 bq G h1 l h) (hc : Chg T h h') (hT : ∀ k, T k → h0.size ≤ k ∧ ∃ cur, Blk h k 39 cur) : QRep h0 bq G h' l h' := by
  obtain ⟨a1, a2, a3, a4, ⟨v, a5, a6, a7⟩, a8⟩ := hr
  refine ⟨a1.then_new hc fun i hi => (hT i hi).1, Chg.refl _ _, a3, a4, ⟨v, a5.chg hc fun e => ?_, a6.chg hc fun g hg e => ?_, a7⟩, a8⟩
  · obtain ⟨_, cur, hb⟩ := hT _ e
    exact absurd (a5.tag hb) (by decide)
  · obtain ⟨_, cur, hb⟩ := hT _ e
    obtain ⟨cur', hb'⟩ := a6.tag hg
    exact absurd (hb'.tag hb) (by decide)
theorem QRep.rebase {h0 h1 h : Heap} {bq : Nat} {G : Nat → Prop} {l : List Src} (hr : QRep h0 bq G h1 l h) : QRep h0 bq G h l h := by
  obtain ⟨a1, a2, a3, a4, a5, a8⟩ := hr
  exact ⟨a1, Chg.refl _ _, a3, a4, a5, a8⟩

/-- What is left, what has come. -/
structure Mid (ls : List (List It)) (q : List Src) (cur : List (List It)) (outs : List (It × Value × Nat)) : Prop where
  agree : Agree Src.l Src.n q cur
  heap : HO le q q.length
  sum : outs.length + total cur = total ls
  sub : ∀ l ∈ cur, ∀ x ∈ l, x.data.length ≤ 1000000000
  mg : ∀ rest, Merges It.at_ cur rest → Merges It.at_ ls (outs.map (fun o => (o.1, o.2.2)) ++ rest)

theorem Mid.step {ls : List (List It)} {q q' : List Src} {cur : List (List It)} {outs : List (It × Value × Nat)} {m : Nat} {x : It} {r : List It} {dv : Value} (hm : Mid ls q cur outs) (hn : q.length = m + 1) (hx : (at_ q 0).l = x :: r)
    (ho : HO le q' q'.length) (hc : (r = [] ∧ (q' ++ [at_ q 0]).Perm q) ∨ (r ≠ [] ∧ ∃ s', s'.l = r ∧ s'.n = (at_ q 0).n ∧ q'.Perm (q.set 0 s'))) :
    Mid ls q' (cur.set (at_ q 0).n r) (outs ++ [(x, dv, (at_ q 0).n)]) ∧ total (cur.set (at_ q 0).n r) + 1 = total cur := by
  have hmem : at_ q 0 ∈ q := List.mem_of_getElem? (at_get (by omega))
  have hl := (hm.agree.loc _ hmem).2
  rw [hx] at hl
  have ht := total_set hl
  have hb := hm.agree.best hm.heap (by omega)
  refine ⟨⟨?_, ho, by rw [List.length_append, List.length_singleton]; have := hm.sum; omega, ?_, ?_⟩, by omega⟩
  · rcases hc with ⟨rfl, hp⟩ | ⟨hr, s', h1, h2, hp⟩
    · exact hm.agree.pop _ hp
    · exact (hm.agree.next (at_get (by omega)) h2 h1 hr).perm hp
  · intro l hl' y hy
    rcases List.mem_or_eq_of_mem_set hl' with h' | h'
    · exact hm.sub l h' y hy
    · subst h'
      exact hm.sub _ (List.mem_of_getElem? hl) y (List.mem_cons_of_mem _ hy)
  · intro rest hrest
    have := hm.mg _ (Merges.step hb hl hrest)
    rw [List.map_append, List.append_assoc]
    exact this

theorem merge_fn {h : Heap} {v : Value} {ls : List (List It)} (hs : SrcsV h v ls) (hlen : ls.length ≤ 100000) (htot : total ls ≤ 1000000) (hbig : ∀ l ∈ ls, ∀ x ∈ l, x.data.length ≤ 1000000000) :
    FnS Try.prog 7 [v] h fun u h' => Ext h h' ∧ ∃ outs : List (It × Value × Nat), Own h' h.size 39 10 u outs.length (outs.flatMap plC) ∧ (∀ o ∈ outs, Own h' h.size 5 1 o.2.1 o.1.data.length (bytesV o.1.data)) ∧
      Merges It.at_ ls (outs.map fun o => (o.1, o.2.2)) := by
  obtain ⟨A, c, rfl, hlc, hsrc⟩ := hs
  refine FnS.intro Try.func7 rfl rfl rfl ?_
  refine Sat.seq ?_
  refine Sat.region rfl ?_
  refine Sat.seq ?_
  refine Sat.region rfl ?_
  obtain ⟨hA, eA⟩ : ∃ hA, hA = h.push (.cells #[.slice none 0 0] 51) := ⟨_, rfl⟩
  have xA : Ext h hA := by rw [eA]; exact Ext.push h _
  have bA : Blk hA h.size 51 #[.slice none 0 0] := by rw [eA]; exact Blk.new h _ _
  have sA : hA.size = h.size + 1 := by rw [eA, Array.size_push]
  refine Sat.at eA.symm ?_
  refine Sat.cut (X := List Src) (fun _ => [(3, .pointer (some ⟨h.size, 0, none⟩))]) (fun q h' => QRep h h.size (fun k => h.size ≤ k) hA q h' ∧ Mid ls q ls [] ∧ (∀ s ∈ q, SrcOk h s)) ?_ ?_
  · refine Sat.seq ?_
    refine Sat.region rfl ?_
    refine Sat.block ?_
    refine Sat.loop (X := Nat × List Src) (fun x => [(3, .pointer (some ⟨h.size, 0, none⟩)), (7, .slice A ls.length c), (8, .int .i64 (ls.length : Int)), (9, .int .i64 (x.1 : Int))])
      (fun x h' => QRep h h.size (fun k => h.size ≤ k) hA x.2 h' ∧ x.1 ≤ ls.length ∧ Agree Src.l Src.n x.2 (ls.take x.1) ∧ HO le x.2 x.2.length ∧ x.2.length ≤ x.1 ∧ (∀ s ∈ x.2, SrcOk h s)) (fun x => ls.length - x.1) (0, []) ⟨rfl, rfl, rfl, rfl, trivial⟩
      ⟨⟨xA, Chg.refl _ _, Nat.le_refl _, Nat.le_refl _, ⟨_, bA, Own.nil _ _ _ _, fun g hg => by cases hg⟩, by simp⟩, Nat.zero_le _, ⟨fun s hs => (by cases hs), fun n l hl => (by simp at hl), by simp⟩, fun k h1 h2 => (by simp at h2), Nat.le_refl _, fun s hs => (by cases hs)⟩ ?_
    rintro ⟨i, q⟩ h' ⟨hq, hi, hag, hho, hqi, hok⟩
    simp only at hq hi hag hho hqi hok ⊢
    refine Sat.seq ?_
    refine Sat.region rfl ?_
    refine ⟨rfl, fun h1 => ?_, fun h1 => ?_⟩
    · have hil : i < ls.length := by omega
      refine Sat.seq ?_
      refine Sat.cond ?_
      refine Sat.skip ?_
      obtain ⟨p, rfl, hp⟩ : ∃ p, A = some p ∧ ∀ (i : Nat) l, ls[i]? = some l → ∃ vi, cellH h (p.add (i * 1)) = some vi ∧ ItemsV h vi l := by
        rcases hsrc with h0 | h0
        · subst h0; simp at hil
        · exact h0
      have hli : ls[i]? = some ls[i] := List.getElem?_eq_getElem hil
      obtain ⟨vi, hvi, B, cc, rfl, hcc, hit⟩ := hp i _ hli
      have htk : ls.take (i + 1) = ls.take i ++ [ls[i]] := by rw [List.take_succ_eq_append_getElem hil]
      have htl : (ls.take i).length = i := by rw [List.length_take, Nat.min_eq_left hi]
      refine Sat.cut (X := List Src) (fun _ => [(3, .pointer (some ⟨h.size, 0, none⟩)), (7, .slice (some p) ls.length c), (8, .int .i64 (ls.length : Int)), (9, .int .i64 (i : Int))])
        (fun q' h' => QRep h h.size (fun k => h.size ≤ k) hA q' h' ∧ Agree Src.l Src.n q' (ls.take (i + 1)) ∧ HO le q' q'.length ∧ q'.length ≤ i + 1 ∧ (∀ s ∈ q', SrcOk h s)) ?_ ?_
      · refine Sat.block ?_
        refine Sat.seq ?_
        refine Sat.region rfl ?_
        refine ⟨p, i, rfl, rfl, hil, _, hq.1.cell hvi, ?_⟩
        refine Sat.seq ?_
        refine Sat.region rfl ?_
        refine ⟨rfl, fun h2 => ?_, fun h2 => ?_⟩
        · have hne : ls[i] ≠ [] := fun e => by rw [e] at h2; simp at h2
          refine Sat.cond ?_
          refine Sat.region rfl ?_
          obtain ⟨p2, rfl, hp2⟩ : ∃ p2, B = some p2 ∧ ItemsAt h p2 ls[i] := by
            rcases hit with h0 | h0
            · exact absurd h0 hne
            · exact h0
          refine build_strct rfl rfl rfl (cells := (srcC ⟨p2, cc, ls[i], i⟩).toArray) (by kernel_rfl) ?_
          have hoks : ∀ s ∈ q ++ [⟨p2, cc, ls[i], i⟩], SrcOk h s := fun s hs => by
            rcases List.mem_append.1 hs with h3 | h3
            · exact hok s h3
            · rw [List.mem_singleton.1 h3]; exact ⟨hne, hcc, hp2⟩
          refine (push_fn (queue_iface h h.size (fun k => h.size ≤ k) hA) (l := q) (a := ⟨p2, cc, ls[i], i⟩) (fun k hk => hoks _ (List.mem_of_getElem? (at_get (by simpa using hk)))) (push_m (fun k hk => Nat.le_trans xA.1 hk) hq _ (by omega))).mono ?_
          intro u h3 hq3
          have hpp := up_perm less (q ++ [⟨p2, cc, ls[i], i⟩]) q.length (by simp)
          refine ⟨_, ⟨rfl, rfl, rfl, rfl, trivial⟩, hq3, ?_, ?_, ?_, fun s hs => hoks s (hpp.mem_iff.1 hs)⟩
          · rw [htk]
            exact (hag.push rfl htl.symm hne).perm hpp
          · have := push_heap ord (x := (⟨p2, cc, ls[i], i⟩ : Src)) hho
            rw [up_length, List.length_append, List.length_singleton]
            exact this
          · rw [up_length, List.length_append, List.length_singleton]
            omega
        · have he : ls[i] = [] := List.eq_nil_of_length_eq_zero (by omega)
          refine Sat.cond ?_
          refine Sat.skip ?_
          refine ⟨q, ⟨rfl, rfl, rfl, rfl, trivial⟩, hq, ?_, hho, by omega, hok⟩
          rw [htk, he]
          exact hag.skip
      · rintro q' h3 ⟨hq3, hag3, hho3, hqi3, hok3⟩
        refine Sat.region rfl ?_
        refine ⟨rfl, ((i + 1 : Nat) : Int), by rw [wrap_i64 (by omega) (by omega)]; omega, ?_⟩
        exact ⟨(i + 1, q'), ⟨rfl, rfl, rfl, rfl, trivial⟩, ⟨hq3, hil, hag3, hho3, hqi3, hok3⟩, by simp only; omega⟩
    · refine Sat.seq ?_
      refine Sat.cond ?_
      refine Sat.exit ?_
      have : i = ls.length := by omega
      subst this
      rw [List.take_length] at hag
      exact ⟨q, ⟨rfl, trivial⟩, hq, ⟨hag, hho, by simp, hbig, fun rest hrest => hrest⟩, hok⟩
  · rintro q hS ⟨hqS, hmS, hokS⟩
    obtain ⟨xS, _, _, _, ⟨vq, bqS, oqS, _⟩, _⟩ := id hqS
    have hGS : ∀ k, (k = h.size ∨ vq.ownBlock = some k) → k < hS.size := fun k hk => by
      rcases hk with rfl | hk
      · exact bqS.lt
      · exact (oqS.base_le k hk).2
    have hqS' : QRep h h.size (fun k => k = h.size ∨ vq.ownBlock = some k) hS q hS := by
      obtain ⟨a1, a2, a3, a4, ⟨v, a5, a6, a7⟩, a8⟩ := hqS
      have hv : v = vq := by
        have := a5.symm.trans bqS
        simpa using this
      subst hv
      exact ⟨a1, Chg.refl _ _, a3, .inl rfl, ⟨v, a5, a6, fun g hg => ⟨.inr hg, (a7 g hg).2⟩⟩, a8⟩
    generalize hG : (fun k => k = h.size ∨ vq.ownBlock = some k) = G at hqS'
    have hG' : ∀ k, G k → k < hS.size := by rw [← hG]; exact hGS
    refine Sat.seq ?_
    refine Sat.region rfl ?_
    refine Sat.seq ?_
    refine Sat.block ?_
    refine Sat.loop (X := List Src × List (List It) × List (It × Value × Nat) × Value) (fun x => [(3, .pointer (some ⟨h.size, 0, none⟩)), (6, x.2.2.2)])
      (fun x h' => QRep h h.size G h' x.1 h' ∧ Mid ls x.1 x.2.1 x.2.2.1 ∧ (∀ s ∈ x.1, SrcOk h s) ∧ hS.size ≤ h'.size ∧ Own h' hS.size 39 10 x.2.2.2 x.2.2.1.length (x.2.2.1.flatMap plC) ∧ (∀ o ∈ x.2.2.1, Own h' hS.size 5 1 o.2.1 o.1.data.length (bytesV o.1.data)))
      (fun x => total x.2.1) (q, ls, [], .slice none 0 0) ⟨rfl, rfl, trivial⟩ ⟨hqS', hmS, hokS, Nat.le_refl _, Own.nil _ _ _ _, fun o ho => (by cases ho)⟩ ?_
    rintro ⟨q, cur, outs, ov⟩ h1 ⟨hq, hm, hok, hsz, ho, hd⟩
    simp only at hq hm hok hsz ho hd ⊢
    obtain ⟨_, _, _, _, ⟨v1, b1, o1, _⟩, hfew⟩ := id hq
    obtain ⟨B1, c1, rfl, _⟩ := o1.slice
    refine Sat.seq ?_
    refine Sat.seq ?_
    refine Sat.region rfl ?_
    refine ⟨.slice B1 q.length c1, by rw [b1.cell]; rfl, ?_⟩
    refine (len_fn h1 B1 q.length c1).mono ?_
    rintro u h1' ⟨rfl, rfl⟩
    refine ⟨rfl, fun h2 => ?_, fun h2 => ?_⟩
    · refine Sat.cond ?_
      refine Sat.skip ?_
      obtain ⟨m, hqm⟩ : ∃ m, q.length = m + 1 := ⟨q.length - 1, by omega⟩
      have hmem : at_ q 0 ∈ q := List.mem_of_getElem? (at_get (by omega))
      obtain ⟨x, r, hxr⟩ := List.exists_cons_of_ne_nil (hok _ hmem).1
      have hcur := (hm.agree.loc _ hmem).2
      rw [hxr] at hcur
      have hbx := hm.sub _ (List.mem_of_getElem? hcur) x (List.mem_cons_self ..)
      have hsum := hm.sum
      refine Sat.block ?_
      refine Sat.region rfl ?_
      refine (next_fn hq hqm hok hm.heap hxr hbx).mono ?_
      rintro u h3 ⟨dv, q', rfl, od, hq3, hok3, hho3, hcase⟩
      obtain ⟨hm3, ht3⟩ := hm.step (dv := dv) hqm hxr hho3 hcase
      have c13 := hq3.2.1
      have ho3 := ho.chg c13 fun g hg e => by have := (ho.base_le g hg).1; have := hG' g e; omega
      have hd3 : ∀ o ∈ outs ++ [(x, dv, (at_ q 0).n)], Own h3 hS.size 5 1 o.2.1 o.1.data.length (bytesV o.1.data) := fun o ho' => by
        rcases List.mem_append.1 ho' with h4 | h4
        · exact (hd o h4).chg c13 fun g hg e => by have := ((hd o h4).base_le g hg).1; have := hG' g e; omega
        · rw [List.mem_singleton.1 h4]; exact od.mono hsz
      refine lit_one i31 (x := .agg (plC (x, dv, (at_ q 0).n)).toArray) rfl ?_
      obtain ⟨h4, e4⟩ : ∃ h4, h4 = h3.push (.cells (plC (x, dv, (at_ q 0).n)).toArray 39) := ⟨_, rfl⟩
      have x4 : Ext h3 h4 := by rw [e4]; exact Ext.push h3 _
      have b4 : Blk h4 h3.size 39 (plC (x, dv, (at_ q 0).n)).toArray := by rw [e4]; exact Blk.new h3 _ _
      have ho4 := ho3.ext x4
      rw [show h3.push (.cells (Value.agg (plC (x, dv, (at_ q 0).n)).toArray).cells 39) = h4 from e4.symm]
      have dv1 : dv.oneCell' = true := by obtain ⟨_, _, rfl, _⟩ := od.slice; rfl
      refine append_to i31 ho4 (news := plC (x, dv, (at_ q 0).n)) rfl (.inr ⟨_, rfl, b4.row⟩) (one_pl _ dv1) (by omega) (by have := c13.1; have := x4.1; omega) ?_
      intro ov' h5 ho5 c5 hov
      refine ⟨(q', cur.set (at_ q 0).n r, outs ++ [(x, dv, (at_ q 0).n)], ov'), ⟨rfl, rfl, trivial⟩, ⟨?_, hm3, hok3, ?_, ?_, fun o ho' => ?_⟩, by simp only; omega⟩
      · have hq4 : QRep h h.size G h4 q' h4 := hq3.keep (T := fun _ => False) (x4.chg _) (fun k hk => hk.elim)
        refine hq4.keep c5 fun k hk => ⟨?_, ho4.tag hk⟩
        have := (ho4.base_le k hk).1
        have := xS.1
        omega
      · have := c13.1; have := x4.1; have := c5.1; show hS.size ≤ h5.size; omega
      · rw [List.length_append, List.flatMap_append]
        simpa using ho5
      · exact ((hd3 o ho').ext x4).chg c5 (((hd3 o ho').ext x4).apart ho4 (by decide))
    · refine Sat.cond ?_
      refine Sat.exit ?_
      refine Sat.seq ?_
      refine Sat.region rfl ?_
      refine Sat.ret ?_
      have hq0 : q = [] := List.eq_nil_of_length_eq_zero (by omega)
      subst hq0
      have := hm.mg [] (Merges.done hm.agree.empty)
      rw [List.append_nil] at this
      exact ⟨hq.1, outs, ho.mono xS.1, fun o ho' => (hd o ho').mono xS.1, this⟩
end Go.Proofs.Ytiheebgoadmomaa
