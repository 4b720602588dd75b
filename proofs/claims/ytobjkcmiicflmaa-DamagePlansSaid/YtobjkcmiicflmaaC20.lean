/- The fixed fact. -/
import Derived.Test.YtobjkcmiicflmaaC19
import Derived.Test.YtobjkcmiicflmaaS2
set_option maxRecDepth 100000
set_option linter.unusedVariables false
namespace Go.Proofs.Ytobjkcmiicflmaa
open Go Go.V

def fixA : List Ln := resizeLs [] 2 4
def fixB : List Ln := eachLs (fillF ⟨120, 0, false⟩ 1 3) 1 2 fixA
theorem fix_spans : spansS false fixA fixB 4 2 = [⟨1, 1, 3⟩] := by decide +kernel

theorem awake_fn (h : Heap) : FnS Try.prog 4 [] h fun u h' => u = .bool true ∧ Ext h h' := by
  have e2 : clamp1 2 = 2 := by decide
  have e4 : clamp1 4 = 4 := by decide
  refine FnS.go Try.func4 rfl rfl rfl rfl ?_
  refine (newPage_fn 2 4).mono ?_
  rintro u h1 ⟨x1, ga, va, za, rfl, pa, ea⟩
  refine (newPage_fn 2 4).mono ?_
  rintro u h2 ⟨x2, gb, vb, zb, rfl, pb, eb⟩
  rw [e4] at pa pb
  rw [e2, e4] at ea eb
  have la : za.length = 2 := by have := congrArg List.length ea; simpa [resizeLs] using this
  have lb : zb.length = 2 := by have := congrArg List.length eb; simpa [resizeLs] using this
  refine build_strct rfl rfl rfl (cells := (bxC ⟨1, 1, 2, 3⟩).toArray) (by kernel_rfl) ?_
  refine build_strct rfl rfl rfl (cells := (celC ⟨120, 0, false⟩).toArray) (by kernel_rfl) ?_
  refine (fill_fn pb ⟨1, 1, 2, 3⟩ ⟨120, 0, false⟩ (by decide)).mono ?_
  rintro u h3 ⟨zb', pb', eb', c3, _⟩
  have hm : meet ⟨1, 1, 2, 3⟩ (pageBx zb.length 4) = ⟨1, 1, 2, 3⟩ := by rw [lb]; decide
  rw [hm, eb] at eb'
  have eb2 : zb'.map (·.2) = fixB := eb'
  have lb' : zb'.length = 2 := by have := congrArg List.length eb'; simpa [resizeLs, eachLs] using this
  have x3 : Ext h2 h3 → True := fun _ => trivial
  have xh3 : Ext h h3 := (x1.trans x2).then_new c3 fun k hk => by have := (pb.own.base_le k hk).1; have := x1.1; omega
  have pa3 := (pa.ext x2).chg c3 fun k hk e => by have := (pa.foot k hk).2; have := (pb.own.base_le k e).1; omega
  refine (spans_fn pa3 pb' (whole := false) (by rw [la, lb']; rfl)).mono ?_
  rintro r h4 ⟨x4, o4⟩
  rw [show za.map (·.2) = fixA from ea, eb2, lb', fix_spans] at o4
  have s4 := Own.spans o4 rfl
  obtain ⟨g, c, e, _, _, hrow, _⟩ := o4.ptr (by decide)
  subst e
  have rx : Row h4 ((⟨g, 0, none⟩ : Addr).add (0 * 3)) (spC ⟨1, 1, 3⟩) := by
    have := hrow.take 3
    exact hrow.elem spC_len (l := [⟨1, 1, 3⟩]) (k := 0) rfl
  refine ⟨rfl, fun _ => ?_, fun h5 => absurd rfl h5⟩
  refine ⟨⟨g, 0, none⟩, 0, rfl, rfl, by decide, _, rfl, rx, ?_⟩
  refine build_strct rfl rfl rfl (cells := (spC ⟨1, 1, 3⟩).toArray) (by kernel_rfl) ?_
  refine eql_agg (b := true) (by kernel_rfl) (by kernel_rfl) rfl ?_
  refine (widthS_fn s4 (by simp) (fun x hx => by rw [List.mem_singleton.1 hx]; exact ⟨by decide, by decide⟩)).mono ?_
  rintro u h5 ⟨rfl, x5⟩
  refine ⟨rfl, fun _ => ?_, fun h6 => absurd (by decide) h6⟩
  exact ⟨rfl, xh3.trans (x4.trans x5)⟩
end Go.Proofs.Ytobjkcmiicflmaa
