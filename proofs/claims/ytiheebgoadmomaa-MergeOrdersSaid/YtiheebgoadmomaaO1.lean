/- The reference's Merge. -/
import Derived.Test.YtiheebgoadmomaaM7
set_option maxRecDepth 100000
set_option linter.unusedVariables false
namespace Go.Proofs.Ytiheebgoadmomaa
open Go Go.V Go.V.Heaps

theorem i41 : slInfo Try.prog 41 = some (46, 10, .agg #[.int .i64 0, .int .i64 0, .slice none 0 0, .int .i64 0, .int .u8 0, .bool false, .bool false, .int .i64 0, .int .i64 0, .int .i64 0], 80) := by kernel_rfl

/-- The best of the first i. -/
def BestTo (cur : List (List It)) (i : Nat) : Option Nat → Prop
  | none => ∀ j l, j < i → cur[j]? = some l → l = []
  | some b => b < i ∧ ∃ x r, cur[b]? = some (x :: r) ∧ ∀ j y s, j < i → cur[j]? = some (y :: s) → x.at_ < y.at_ ∨ (x.at_ = y.at_ ∧ b ≤ j)
def bestV : Option Nat → Value
  | none => .int .i64 (-1)
  | some b => .int .i64 (b : Int)

structure MidR (ls cur : List (List It)) (outs : List (It × Value × Nat)) : Prop where
  len : cur.length = ls.length
  sum : outs.length + total cur = total ls
  mg : ∀ rest, Merges It.at_ cur rest → Merges It.at_ ls (outs.map (fun o => (o.1, o.2.2)) ++ rest)

theorem items_at {h : Heap} {v : Value} {l : List It} (hi : ItemsV h v l) (hne : l ≠ []) : ∃ p c, v = .slice (some p) l.length c ∧ l.length ≤ c ∧ ItemsAt h p l := by
  obtain ⟨A, c, rfl, hc, hr⟩ := hi
  rcases hr with h0 | ⟨p, rfl, hp⟩
  · exact absurd h0 hne
  · exact ⟨p, c, rfl, hc, hp⟩

theorem refMerge_fn {h : Heap} {v : Value} {ls : List (List It)} (hs : SrcsV h v ls) (hlen : ls.length ≤ 100000) (htot : total ls ≤ 1000000) :
    FnS Try.prog 9 [v] h fun u h' => Ext h h' ∧ ∃ outs : List (It × Value × Nat), Own h' h.size 46 10 u outs.length (outs.flatMap plC) ∧ (∀ o ∈ outs, BytesAt h o.2.1 o.1.data) ∧
      Merges It.at_ ls (outs.map fun o => (o.1, o.2.2)) := by
  obtain ⟨A, c, rfl, hlc, hsrc⟩ := hs
  -- the slices' own values
  obtain ⟨vals0, hvl0, hvals0, hrow0⟩ : ∃ vals : List Value, vals.length = ls.length ∧ (∀ (i : Nat) (v : Value) (l : List It), vals[i]? = some v → ls[i]? = some l → ItemsV h v l) ∧ (ls.length = 0 ∨ ∃ p, A = some p ∧ Row h p vals) := by
    rcases hsrc with rfl | ⟨p, rfl, hp⟩
    · exact ⟨[], rfl, fun i v l hv => (by cases hv), .inl rfl⟩
    · have key : ∀ n, n ≤ ls.length → ∃ vals : List Value, vals.length = n ∧ ∀ (i : Nat) (v : Value) (l : List It), vals[i]? = some v → ls[i]? = some l → cellH h (p.add (i * 1)) = some v ∧ ItemsV h v l := by
        intro n
        induction n with
        | zero => intro _; exact ⟨[], rfl, fun i v l hv => by simp at hv⟩
        | succ n ih =>
          intro hn
          obtain ⟨vals, hvl, hv⟩ := ih (by omega)
          obtain ⟨vi, h1, h2⟩ := hp n _ (List.getElem?_eq_getElem (by omega))
          refine ⟨vals ++ [vi], by simp [hvl], fun i v l hi hl => ?_⟩
          by_cases hin : i < n
          · rw [List.getElem?_append_left (by omega)] at hi
            exact hv i v l hi hl
          · have : i < (vals ++ [vi]).length := (List.getElem?_eq_some_iff.1 hi).1
            rw [List.length_append, List.length_singleton] at this
            have e : i = n := by omega
            subst e
            rw [List.getElem?_append_right (by omega), hvl, Nat.sub_self] at hi
            injection hi with hi
            subst hi
            rw [List.getElem?_eq_getElem (by omega)] at hl
            injection hl with hl
            subst hl
            exact ⟨h1, h2⟩
      obtain ⟨vals, hvl, hv⟩ := key ls.length (Nat.le_refl _)
      refine ⟨vals, hvl, fun i v l h1 h2 => (hv i v l h1 h2).2, .inr ⟨p, rfl, fun j v hj => ?_⟩⟩
      have hjl : j < ls.length := by rw [← hvl]; exact (List.getElem?_eq_some_iff.1 hj).1
      have := (hv j v _ hj (List.getElem?_eq_getElem hjl)).1
      rwa [Nat.mul_one] at this
  have hone0 : ∀ u ∈ vals0, u.oneCell' = true := fun u hu => by
    obtain ⟨i, hi⟩ := List.mem_iff_getElem?.1 hu
    have hil : i < ls.length := by rw [← hvl0]; exact (List.getElem?_eq_some_iff.1 hi).1
    obtain ⟨_, _, e, _⟩ := hvals0 i u _ hi (List.getElem?_eq_getElem hil)
    rw [e]; rfl
  refine FnS.intro Try.func9 rfl rfl rfl ?_
  refine Sat.seq ?_
  refine Sat.region rfl ?_
  refine Sat.seq ?_
  refine Sat.region rfl ?_
  refine lit_zero i22 ?_
  have x0 := Ext.push h (.cells #[] 25)
  have o0 : Own (h.push (.cells #[] 25)) h.size 25 1 (.slice (some ⟨h.size, 0, none⟩) 0 0) 0 [] := ⟨rfl, .inr ⟨h.size, 0, #[], rfl, Nat.le_refl _, Blk.new h 25 #[], Nat.le_refl _, Nat.zero_le _, rfl, rfl⟩⟩
  refine append_to i22 o0 (news := vals0) (by rw [hvl0, Nat.mul_one]) ?_ hone0 (by omega) (by simp) ?_
  · rcases hrow0 with h0 | ⟨p, hp, hr⟩
    · exact .inl h0
    · exact .inr ⟨p, hp, hr.ext x0⟩
  intro v3 h3 o3 c3 _
  have x3 : Ext h h3 := x0.then_new c3 fun i hi => by injection hi with hi; exact Nat.le_of_eq hi
  rw [Nat.zero_add, List.nil_append] at o3
  refine Sat.seq ?_
  refine Sat.region rfl ?_
  refine Sat.block ?_
  refine Sat.loop (X := List (List It) × List Value × List (It × Value × Nat) × Value) (fun x => [(3, v3), (4, x.2.2.2)])
    (fun x h' => Ext h h' ∧ MidR ls x.1 x.2.2.1 ∧ x.2.1.length = ls.length ∧ Own h' h.size 25 1 v3 ls.length x.2.1 ∧ (∀ (i : Nat) (v : Value) (l : List It), x.2.1[i]? = some v → x.1[i]? = some l → ItemsV h v l) ∧
      Own h' h.size 46 10 x.2.2.2 x.2.2.1.length (x.2.2.1.flatMap plC) ∧ (∀ o ∈ x.2.2.1, BytesAt h o.2.1 o.1.data))
    (fun x => total x.1) (ls, vals0, [], .slice none 0 0) ⟨rfl, rfl, trivial⟩ ⟨x3, ⟨rfl, by simp, fun rest hr => hr⟩, hvl0, o3, hvals0, Own.nil _ _ _ _, fun o ho => (by cases ho)⟩ ?_
  rintro ⟨cur, vals, outs, v4⟩ hR ⟨xR, hm, hvl, oV, hv, oO, hob⟩
  simp only at xR hm hvl oV hv oO hob ⊢
  have hcl := hm.len
  have hsum := hm.sum
  obtain ⟨A3, c3', rfl, hlc3⟩ := oV.slice
  refine Sat.block ?_
  refine Sat.seq ?_
  refine Sat.region rfl ?_
  -- the best
  refine Sat.cut (X := Option Nat) (fun b => [(3, .slice A3 ls.length c3'), (4, v4), (5, bestV b)]) (fun b h' => h' = hR ∧ BestTo cur ls.length b) ?_ ?_
  · refine Sat.seq ?_
    refine Sat.region rfl ?_
    refine Sat.block ?_
    refine Sat.loop (X := Nat × Option Nat) (fun x => [(3, .slice A3 ls.length c3'), (4, v4), (5, bestV x.2), (6, .int .i64 (x.1 : Int))]) (fun x h' => h' = hR ∧ x.1 ≤ ls.length ∧ BestTo cur x.1 x.2) (fun x => ls.length - x.1) (0, none)
      ⟨rfl, rfl, rfl, rfl, trivial⟩ ⟨rfl, Nat.zero_le _, fun j l hj => (by omega)⟩ ?_
    rintro ⟨i, b⟩ h' ⟨rfl, hi, hb⟩
    simp only at hi hb ⊢
    refine Sat.seq ?_
    refine Sat.seq ?_
    refine Sat.region rfl ?_
    refine ⟨rfl, fun h1 => ?_, fun h1 => ?_⟩
    rotate_left
    · refine Sat.cond ?_
      refine Sat.exit ?_
      have : i = ls.length := by omega
      subst this
      exact ⟨b, ⟨rfl, rfl, rfl, trivial⟩, rfl, hb⟩
    have hil : i < ls.length := by omega
    refine Sat.cond ?_
    refine Sat.skip ?_
    obtain ⟨g, cg, e3, _, _, hrow, _⟩ := oV.ptr (by omega)
    injection e3 with e3 _ _
    subst e3
    have hvi : vals[i]? = some (vals[i]'(by omega)) := List.getElem?_eq_getElem (by omega)
    have hci : cur[i]? = some (cur[i]'(by omega)) := List.getElem?_eq_getElem (by omega)
    have hiv := hv i _ _ hvi hci
    have cel : cellH h' ((⟨g, 0, none⟩ : Addr).add (i * 1)) = some (vals[i]'(by omega)) := by rw [Nat.mul_one]; exact hrow i _ hvi
    generalize vals[i]'(by omega) = vi at *
    generalize hcur : cur[i]'(by omega) = l at *
    obtain ⟨Ai, ci, rfl, hlci, hit⟩ := id hiv
    refine Sat.cut (X := Option Nat) (fun b => [(3, .slice (some ⟨g, 0, none⟩) ls.length c3'), (4, v4), (5, bestV b), (6, .int .i64 (i : Int))]) (fun b h2 => h2 = h' ∧ BestTo cur (i + 1) b) ?_ ?_
    rotate_left
    · rintro b' h2 ⟨rfl, hb'⟩
      refine Sat.region rfl ?_
      refine ⟨rfl, ((i + 1 : Nat) : Int), by rw [wrap_i64 (by omega) (by omega)]; omega, ?_⟩
      exact ⟨(i + 1, b'), ⟨rfl, rfl, rfl, rfl, trivial⟩, ⟨rfl, hil, hb'⟩, by simp only; omega⟩
    refine Sat.block ?_
    refine Sat.seq ?_
    refine Sat.drawn .plain rfl (by kernel_rfl) ?_
    refine ⟨⟨g, 0, none⟩, i, rfl, rfl, hil, _, cel, rfl, fun h2 => ?_, fun h2 => ?_⟩
    rotate_left
    · refine Sat.cond ?_
      refine Sat.skip ?_
      have hl0 : l = [] := List.eq_nil_of_length_eq_zero (by omega)
      refine ⟨b, ⟨rfl, rfl, rfl, rfl, trivial⟩, rfl, ?_⟩
      cases b with
      | none =>
        intro j l' hj hl'
        by_cases hji : j = i
        · subst hji; rw [hci] at hl'; injection hl' with hl'; rw [← hl', hl0]
        · exact hb j l' (by omega) hl'
      | some b =>
        obtain ⟨hbi, x, r, hx, hall⟩ := hb
        refine ⟨by omega, x, r, hx, fun j y s hj hy => ?_⟩
        by_cases hji : j = i
        · subst hji; rw [hci, hl0] at hy; cases hy
        · exact hall j y s (by omega) hy
    have hne : l ≠ [] := fun e => by rw [e] at h2; simp at h2
    obtain ⟨p, cp, e, _, hat⟩ := items_at hiv hne
    injection e with e1 e2 e3
    subst e1; subst e3
    obtain ⟨y, s, hys⟩ := List.exists_cons_of_ne_nil hne
    have cy := ((hat 0 y (by rw [hys]; rfl)).ext xR).at_
    have hl0 : 0 < l.length := List.length_pos_iff.2 hne
    cases b with
    | none =>
      refine ⟨rfl, fun _ => ?_, fun h3 => absurd h3 (by decide)⟩
      refine Sat.cond ?_
      refine Sat.region rfl ?_
      refine ⟨some i, ⟨rfl, rfl, rfl, rfl, trivial⟩, rfl, by omega, y, s, by rw [hci, hys], fun j z t hj hz => ?_⟩
      by_cases hji : j = i
      · subst hji; rw [hci, hys] at hz; injection hz with hz; injection hz with hz _; subst hz; omega
      · have := hb j _ (by omega) hz; cases this
    | some b =>
      obtain ⟨hbi, x, r, hx, hall⟩ := hb
      refine ⟨rfl, fun h3 => absurd h3 (by omega), fun _ => ?_⟩
      have hbl : b < vals.length := by omega
      have hvb : vals[b]? = some vals[b] := List.getElem?_eq_getElem hbl
      have hbv := hv b _ _ hvb hx
      have celb : cellH h' ((⟨g, 0, none⟩ : Addr).add (b * 1)) = some vals[b] := by rw [Nat.mul_one]; exact hrow b _ hvb
      generalize vals[b] = vb at *
      obtain ⟨pb, cb, rfl, _, hatb⟩ := items_at hbv (by simp)
      have cx := ((hatb 0 x rfl).ext xR).at_
      refine ⟨⟨g, 0, none⟩, i, rfl, rfl, hil, _, cel, p, 0, rfl, rfl, hl0, by decide, _, cy, ⟨g, 0, none⟩, b, rfl, rfl, by omega, _, celb, pb, 0, rfl, rfl, by simp, by decide, _, cx, rfl, fun h4 => ?_, fun h4 => ?_⟩
      · refine Sat.cond ?_
        refine Sat.region rfl ?_
        refine ⟨some i, ⟨rfl, rfl, rfl, rfl, trivial⟩, rfl, by omega, y, s, by rw [hci, hys], fun j z t hj hz => ?_⟩
        by_cases hji : j = i
        · subst hji; rw [hci, hys] at hz; injection hz with hz; injection hz with hz _; subst hz; omega
        · have := hall j z t (by omega) hz
          omega
      · refine Sat.cond ?_
        refine Sat.skip ?_
        refine ⟨some b, ⟨rfl, rfl, rfl, rfl, trivial⟩, rfl, by omega, x, r, hx, fun j z t hj hz => ?_⟩
        by_cases hji : j = i
        · subst hji; rw [hci, hys] at hz; injection hz with hz; injection hz with hz _; subst hz; omega
        · exact hall j z t (by omega) hz
  rintro b h' ⟨rfl, hb⟩
  cases b with
  | none =>
    refine Sat.seq ?_
    refine Sat.seq ?_
    refine Sat.region rfl ?_
    refine ⟨rfl, fun _ => ?_, fun h3 => absurd h3 (by decide)⟩
    refine Sat.cond ?_
    refine Sat.seq ?_
    refine Sat.region rfl ?_
    refine Sat.ret ?_
    have := hm.mg [] (Merges.done fun i l hl => hb i l (by rw [← hcl]; exact (List.getElem?_eq_some_iff.1 hl).1) hl)
    rw [List.append_nil] at this
    exact ⟨xR, outs, oO, hob, this⟩
  | some b =>
    obtain ⟨hbi, x, r, hx, hall⟩ := hb
    refine Sat.seq ?_
    refine Sat.seq ?_
    refine Sat.region rfl ?_
    refine ⟨rfl, fun h3 => absurd h3 (by omega), fun _ => ?_⟩
    refine Sat.cond ?_
    refine Sat.skip ?_
    obtain ⟨g, cg, e3, _, _, hrow, _⟩ := oV.ptr (by omega)
    injection e3 with e3 _ _
    subst e3
    have hbl : b < vals.length := by omega
    have hvb : vals[b]? = some vals[b] := List.getElem?_eq_getElem hbl
    have hbv := hv b _ _ hvb hx
    have celb : cellH h' ((⟨g, 0, none⟩ : Addr).add (b * 1)) = some vals[b] := by rw [Nat.mul_one]; exact hrow b _ hvb
    generalize hvbe : vals[b] = vb at *
    obtain ⟨pb, cb, rfl, hlcb, hatb⟩ := items_at hbv (by simp)
    obtain ⟨Ad, cd, rowx, byx⟩ := hatb 0 x rfl
    have hbest : IsBest It.at_ cur b := ⟨x, r, hx, fun j y s hj => hall j y s (by rw [← hcl]; exact (List.getElem?_eq_some_iff.1 hj).1) hj⟩
    have ht := total_set hx
    have hbi' : (b : Int) < 100000 := by omega
    refine Sat.seq ?_
    refine Sat.region rfl ?_
    refine ⟨⟨g, 0, none⟩, b, rfl, rfl, hbi, _, celb, pb, 0, rfl, rfl, by simp, _, rfl, rowx.ext xR, ?_⟩
    refine build_strct rfl rfl rfl (cells := (plC (x, .slice Ad x.data.length cd, b)).toArray) (by kernel_rfl) ?_
    refine lit_one i41 (x := .agg (plC (x, .slice Ad x.data.length cd, b)).toArray) rfl ?_
    obtain ⟨hD, eD⟩ : ∃ hD, hD = h'.push (.cells (plC (x, .slice Ad x.data.length cd, b)).toArray 46) := ⟨_, rfl⟩
    have xD : Ext h' hD := by rw [eD]; exact Ext.push h' _
    have bD : Blk hD h'.size 46 (plC (x, .slice Ad x.data.length cd, b)).toArray := by rw [eD]; exact Blk.new h' _ _
    rw [show h'.push (.cells (Value.agg (plC (x, .slice Ad x.data.length cd, b)).toArray).cells 46) = hD from eD.symm]
    have oO' := oO.ext xD
    have oV' := oV.ext xD
    refine append_to i41 oO' (news := plC (x, .slice Ad x.data.length cd, b)) rfl (.inr ⟨_, rfl, bD.row⟩) (one_pl _ rfl) (by omega) (by have := xR.1; have := xD.1; omega) ?_
    intro v4' hE oE cE _
    have xE : Ext h hE := (xR.trans xD).then_new cE fun k hk => (oO'.base_le k hk).1
    have oVE := oV'.chg cE (oV'.apart oO' (by decide))
    obtain ⟨gE, cgE, eE, hgE, _, hrowE, _⟩ := oVE.ptr (by omega)
    injection eE with eE _ _
    injection eE with eE
    injection eE with eE
    subst eE
    have celE : cellH hE ((⟨g, 0, none⟩ : Addr).add (b * 1)) = some (.slice (some pb) (x :: r).length cb) := by rw [Nat.mul_one]; exact hrowE b _ hvb
    have frE : frozenH hE ((⟨g, 0, none⟩ : Addr).add (b * 1)) = false := by
      obtain ⟨cur', hblk⟩ := oVE.tag (g := g) rfl
      rw [add_plain]
      exact hblk.free _
    refine Sat.region rfl ?_
    refine ⟨⟨g, 0, none⟩, b, rfl, rfl, hbi, _, celE, ?_⟩
    refine ⟨1, (x :: r).length, cb, rfl, rfl, rfl, (fun h => nomatch h), by simp, by omega, Nat.le_refl _, _, r.length, cb - 1, rfl, by simp, rfl, ?_⟩
    refine ⟨⟨g, 0, none⟩, b, rfl, rfl, hbi, ?_⟩
    obtain ⟨p', hp'⟩ : ∃ p', p' = (if cb = 1 then pb else pb.add (1 * 9)) := ⟨_, rfl⟩
    have hsp : (if cb = 1 then some pb else Option.map (fun x => x.add (1 * 9)) (some pb)) = some p' := by rw [hp']; split <;> rfl
    rw [hsp]
    refine ⟨rfl, rfl, ⟨_, celE⟩, frE, ?_⟩
    have oF := oVE.putCell (i := b) (by omega) (.slice (some p') r.length (cb - 1))
    have sF := setH_chg hE ⟨g, b, none⟩ (.slice (some p') r.length (cb - 1))
    have eadd : (⟨g, 0, none⟩ : Addr).add (b * 1) = ⟨g, b, none⟩ := by rw [add_plain, Nat.mul_one, Nat.zero_add]
    rw [eadd]
    refine ⟨(cur.set b r, vals.set b (.slice (some p') r.length (cb - 1)), outs ++ [(x, .slice Ad x.data.length cd, b)], v4'), ⟨rfl, rfl, trivial⟩, ⟨xE.then_new sF (fun i hi => by subst hi; exact hgE), ⟨by simp [hcl], by simp; omega, fun rest hrest => ?_⟩, by simp [hvl], oF, fun i v l hi hl => ?_, ?_, fun o ho => ?_⟩, by simp only; omega⟩
    · have := hm.mg _ (Merges.step hbest hx hrest)
      rw [List.map_append, List.append_assoc]
      exact this
    · by_cases hib : b = i
      · subst hib
        rw [List.getElem?_set_self hbl] at hi
        rw [List.getElem?_set_self (by omega)] at hl
        injection hi with hi
        injection hl with hl
        subst hi; subst hl
        have hcb : r.length ≤ cb - 1 := by simp only [List.length_cons] at hlcb; omega
        refine ⟨some p', cb - 1, rfl, hcb, ?_⟩
        by_cases hr0 : r = []
        · exact .inl hr0
        · have hrl : 0 < r.length := List.length_pos_iff.2 hr0
          refine .inr ⟨p', rfl, ?_⟩
          rw [hp', if_neg (by omega)]
          exact hatb.tail
      · rw [List.getElem?_set_ne hib] at hi hl
        exact hv i v l hi hl
    · have := oE.chg sF fun g' hg' e => by
        simp only at e
        subst e
        exact (oVE.apart (oE) (by decide)) g' rfl hg'
      rw [List.length_append, List.length_singleton, List.flatMap_append]
      simpa using this
    · rcases List.mem_append.1 ho with h4 | h4
      · exact hob o h4
      · rw [List.mem_singleton.1 h4]; exact byx
end Go.Proofs.Ytiheebgoadmomaa
