/- The queue's Push and Pop; bytes.Clone. -/
import Derived.Test.YtiheebgoadmomaaM2
set_option maxRecDepth 100000
set_option linter.unusedVariables false
namespace Go.Proofs.Ytiheebgoadmomaa
open Go Go.V Go.V.Heaps

theorem i51 : slInfo Try.prog 51 = some (55, 2, .agg #[.slice none 0 0, .int .i64 0], 32) := by kernel_rfl
theorem i26 : slInfo Try.prog 26 = some (5, 1, .int .u8 0, 1) := by kernel_rfl
theorem one_src (s : Src) : ∀ u ∈ srcC s, u.oneCell' = true := by intro u hu; simp [srcC] at hu; rcases hu with rfl | rfl <;> rfl

theorem push_m {h0 h1 h : Heap} {G : Nat → Prop} {bq : Nat} {l : List Src} (hG : ∀ k, h1.size ≤ k → G k) (hr : QRep h0 bq G h1 l h) (s : Src) (hn : l.length < 1000000) :
    Inv 53 (.pointer (some ⟨bq, 0, none⟩)) "Push" [.iface 55 (.agg (srcC s).toArray)] h fun _ h' => QRep h0 bq G h1 (l ++ [s]) h' := by
  obtain ⟨hx, hc, hbq, hGb, ⟨v, hb, ho, hg⟩, hfew⟩ := hr
  have hlt := hb.lt
  obtain ⟨A, c, rfl, hlc⟩ := ho.slice
  refine inv_ptr m53Push und53 ?_
  refine FnS.intro Try.func44 rfl rfl rfl ?_
  refine Sat.drawn (.old (bq + 1) []) rfl (by kernel_rfl) ?_
  refine ⟨Nat.lt_succ_self _, _, by rw [hb.cell]; rfl, ?_⟩
  refine ⟨rfl, ?_⟩
  refine lit_one i51 (x := .agg (srcC s).toArray) rfl ?_
  refine ⟨fun k hk => (Ext.push h _).2 k (show k < h.size from by have : k < bq + 1 := hk; omega), ?_⟩
  have hx1 := Ext.push h (.cells (srcC s).toArray 55)
  have hnew : Row (h.push (.cells (srcC s).toArray 55)) ⟨h.size, 0, none⟩ (srcC s) := (Blk.new h 55 (srcC s).toArray).row
  refine append_to i51 (ho.ext hx1) (news := srcC s) rfl (.inr ⟨_, rfl, hnew⟩) (one_src s) (by omega) (by have := hx.1; rw [Array.size_push]; omega) ?_
  intro v' h2 ho2 hc2 hv2
  have hne : (Value.slice A l.length c).ownBlock ≠ some bq := fun e => (hg bq e).2 rfl
  have hb2 : Blk h2 bq 51 #[.slice A l.length c] := (hb.ext hx1).chg hc2 hne
  refine ⟨rfl, ?_, ⟨_, by rw [hb2.cell]; rfl⟩, hb2.free 0, ?_⟩
  · obtain ⟨A', c', rfl, _⟩ := ho2.slice; rfl
  have hw2 : ∀ g, v'.ownBlock = some g → G g ∧ g ≠ bq := fun g hg' => by
    rcases hv2 with e | e
    · exact hg g (e.symm.trans hg')
    · rw [e] at hg'
      injection hg' with hg'
      subst hg'
      rw [Array.size_push]
      exact ⟨hG _ (by have := hc.1; omega), by omega⟩
  have s3 := setH_chg h2 ⟨bq, 0, none⟩ v'
  have hb3 := hb2.set 0 v'
  have c02 : Ext h0 h2 := (hx.trans hx1).then_new hc2 fun i hi => by
    exact (ho.base_le i hi).1
  refine ⟨c02.then_new s3 (fun i hi => by subst hi; exact hbq), ?_, hbq, hGb, ⟨v', hb3, ?_, hw2⟩, by simp; omega⟩
  · refine (hc.trans (hx1.chg G)).trans ((hc2.mono fun k _ hk => (hg k hk).1).trans (s3.mono fun k _ hk => by subst hk; exact hGb))
  · have := ho2.chg s3 fun g hg' => (hw2 g hg').2
    rw [List.length_append, List.flatMap_append]
    simpa using this

theorem pop_m {h0 h1 h : Heap} {G : Nat → Prop} {bq : Nat} {l : List Src} {n : Nat} (hr : QRep h0 bq G h1 l h) (hn : l.length = n + 1) :
    Inv 53 (.pointer (some ⟨bq, 0, none⟩)) "Pop" [] h fun _ h' => QRep h0 bq G h1 (l.take n) h' := by
  obtain ⟨hx, hc, hbq, hGb, ⟨v, hb, ho, hg⟩, hfew⟩ := hr
  have hlt := hb.lt
  obtain ⟨g, c, rfl, hge, hgl, hrow, hlc⟩ := ho.ptr (by omega)
  refine inv_ptr m53Pop und53 ?_
  refine FnS.intro Try.func43 rfl rfl rfl ?_
  refine Sat.seq ?_
  refine Sat.region rfl ?_
  refine Sat.seq ?_
  refine Sat.region rfl ?_
  refine ⟨_, by rw [hb.cell]; rfl, ?_⟩
  refine ⟨rfl, (n : Int), by rw [wrap_i64 (by omega) (by omega)]; omega, ?_⟩
  refine Sat.seq ?_
  refine Sat.region rfl ?_
  refine ⟨_, by rw [hb.cell]; rfl, ?_⟩
  refine ⟨⟨g, 0, none⟩, n, rfl, rfl, by omega, ?_⟩
  refine ⟨_, rfl, hrow.elem srcC_len (at_get (show n < l.length by omega)), ?_⟩
  have hx1 := Ext.push h (.cells #[.slice none 0 0, .int .i64 0] 55)
  have hb1 := Blk.new h 55 #[.slice none 0 0, .int .i64 0]
  refine ⟨rfl, one_src _, ?_, ?_⟩
  · exact hb1.okAt (by decide)
  have s2 := setRow_chg ⟨h.size, 0, none⟩ (srcC (at_ l n)) 0 (h.push (.cells #[.slice none 0 0, .int .i64 0] 55))
  have hx2 : Ext h (setRow (h.push (.cells #[.slice none 0 0, .int .i64 0] 55)) ⟨h.size, 0, none⟩ (srcC (at_ l n)) 0) := hx1.then_new s2 fun i hi => by subst hi; exact Nat.le_refl _
  have hb2 := hb1.whole (vs := srcC (at_ l n)) rfl
  generalize hh2 : setRow (h.push (.cells #[.slice none 0 0, .int .i64 0] 55)) ⟨h.size, 0, none⟩ (srcC (at_ l n)) 0 = h2 at *
  refine Sat.at hh2 ?_
  refine Sat.seq ?_
  refine Sat.region rfl ?_
  have hbq2 := hb.ext hx2
  refine ⟨_, by rw [hbq2.cell]; rfl, ?_⟩
  refine ⟨0, n, c, rfl, rfl, rfl, fun _ => rfl, by omega, by omega, Nat.le_refl _, some ⟨g, 0, none⟩, n, c, cut0 _ _ _, rfl, rfl, ?_⟩
  refine ⟨rfl, rfl, ⟨_, by rw [hbq2.cell]; rfl⟩, hbq2.free 0, ?_⟩
  have s3 := setH_chg h2 ⟨bq, 0, none⟩ (.slice (some ⟨g, 0, none⟩) n c)
  have hb3 := hbq2.set 0 (.slice (some ⟨g, 0, none⟩) n c)
  have hrow3 : Row (setH h2 ⟨bq, 0, none⟩ (.slice (some ⟨g, 0, none⟩) n c)) ⟨h.size, 0, none⟩ (srcC (at_ l n)) := (hb2.far (show h.size ≠ bq by omega) _).row
  refine Sat.seq ?_
  refine Sat.region rfl ?_
  refine ⟨_, rfl, hrow3, ?_⟩
  refine Sat.ret ?_
  have hne : g ≠ bq := (hg g rfl).2
  refine ⟨(hx.trans hx2).then_new s3 (fun i hi => by subst hi; exact hbq), ?_, hbq, hGb, ⟨_, hb3, ?_, hg⟩, by simp; omega⟩
  · exact (hc.trans (hx2.chg G)).trans (s3.mono fun k _ hk => by subst hk; exact hGb)
  · have := ((ho.ext hx2).chg s3 fun g' hg' => by injection hg' with hg'; subst hg'; exact hne).cut srcC_len rfl (show n ≤ l.length by omega)
    rwa [List.length_take, Nat.min_eq_left (by omega)]
end Go.Proofs.Ytiheebgoadmomaa
