/- The listed variable of layer 28's rows: what a row lists of it is what the layer asks. -/
import Derived.Test.YtknnooannohflaaDoorPxIK
import Derived.Lib.LaidU8
import Derived.OpenShut
import Derived.MakeChecks
import Derived.Test.YtknnooannohflaaDoorRows
namespace Go.Proofs.YtknnooannohflaaDoor
open Go Go.Px Go.Proofs
set_option maxRecDepth 100000
set_option linter.unusedVariables false

theorem Zod {H : Type} {enc : TypeId × Value → H} {P : Program} {w : World} {base : Nat} {sp : Nat → Bool} {held : Bool} {fuel : Nat} {t e : TypeId} {n : Nat} {cs : List Value} {bs : List (List UInt8)} {p : List MemPlace}
  (ht : P.underlying t = some (.array n e)) (he : P.underlying e = some .string) (hce : P.cellsOf e = 1) (hct : P.cellsOf t = n)
  (h : DataW.trod enc P w base sp held fuel t cs = some (.agg (bs.map fun l => .lit (.string l)), p)) : cs = bs.map fun l => Value.string ⟨l.toArray⟩ := by
 obtain ⟨xs, m, rfl, hx, hl, hxl, hall⟩ := DataW.trod_array ht h
 have hxs : xs.map (·.1) = bs.map fun l => (DataW.lit (.string l) : DataW H) := by
  have := congrArg Prod.fst hx
  simpa using this.symm
 have hbl : bs.length = n := (by have := congrArg List.length hxs; simp at this; omega); apply List.ext_getElem?; intro i; by_cases hi : i < n
 ·have h1 := hall i hi
  obtain ⟨b, hb⟩ : ∃ b, xs[i]? = some b := ⟨xs[i]'(by omega), List.getElem?_eq_getElem (by omega)⟩
  rw [hb, hce, Nat.mul_one] at h1; obtain ⟨s, hcs, rfl, _⟩ := DataW.trod_string he h1
  have h2 : cs[i]? = some (.string s) := by
   have := congrArg (·[0]?) hcs
   simpa [List.getElem?_take, List.getElem?_drop] using this
  have h3 : (xs.map (·.1))[i]? = some (DataW.lit (.string s.data.toList) : DataW H) := (by simp [hb]); rw [hxs] at h3; simp only [List.getElem?_map, Option.map_eq_some_iff, DataW.lit.injEq, Lit.string.injEq] at h3; obtain ⟨l, hl', e⟩ := h3; subst e; rw [h2, List.getElem?_map, hl']; rfl
 ·rw [List.getElem?_eq_none (by omega), List.getElem?_eq_none (by simp; omega)]

def bndB : List (List UInt8) := [[49], [50], [52], [56], [49, 54], [51, 50], [54, 52], [49, 50, 56], [43, 73, 110, 102]]

theorem Zww {W : World} (h : laidMetH Tryd.prog [("fusebox/parse.bounds", Rows.laid_fusebox_parse_bounds)] W) : Gl (hof W) W := by
 rw [MakeChecks.laidMetH_plain _ _ _ (by kernel_rfl)] at h
 obtain ⟨g, t, cs, fuel, p, hg, ht, hv, hd⟩ := Lib.laidMet.reads h (n := "fusebox/parse.bounds") (d := Rows.laid_fusebox_parse_bounds) (by simp)
 obtain rfl := Option.some.inj ((show Tryd.prog.globalNamed "fusebox/parse.bounds" = some 2 by kernel_rfl).symm.trans hg)
 obtain rfl := Option.some.inj ((show (Tryd.prog.globals[2]?).map (·.type) = some 187 by kernel_rfl).symm.trans ht); have hc := Zod (n := 9) (e := 9) (bs := bndB) (by kernel_rfl) (by kernel_rfl) (by kernel_rfl) (by kernel_rfl) hd
 have hb : ∃ ty fz, W.heap[2]? = some (.cells cs ty fz) := by
  unfold World.var? at hv; rw [hg] at hv; simp only [Option.bind_some] at hv
  split at hv
  ·rename_i cs' ty fz e
   cases hv
   exact ⟨ty, fz, e⟩
  ·cases hv
 obtain ⟨ty, fz, hb⟩ := hb; have hpw : bnds = bndB.map fun l => SV.val (.string ⟨l.toArray⟩) := (by kernel_rfl); refine ⟨fun q hq i c hqi => ?_, fun q hq => ?_⟩
 ·simp only [Zbz, List.mem_singleton] at hq; subst hq; rw [hpw, List.getElem?_map] at hqi; obtain ⟨z, hz, rfl⟩ := Option.map_eq_some_iff.1 hqi; refine ⟨.string ⟨z.toArray⟩, ?_, .val _⟩; have : cs.toList[i]? = some (.string ⟨z.toArray⟩) := by rw [hc, List.getElem?_map, hz]; rfl
  simp only [hof, World.cell?, hb]
  simpa using this
 ·simp only [Zbz, List.mem_singleton] at hq; subst hq; refine ⟨by decide, cs, ty, fz, hb, ?_⟩; have := congrArg List.length hc; simp only [Array.length_toList, List.length_map] at this; rw [this]; rfl
end Go.Proofs.YtknnooannohflaaDoor
