/- The listed variable of layer 28's rows: what a row lists of it is what the layer asks. -/
import Derived.Test.YtknnooannohflaaGreatDoorPxIK
import Derived.Lib.LaidU8
import Derived.OpenShut
import Derived.MakeChecks
import Derived.Shelf.Strconv.Itoa4
import Derived.Test.YtknnooannohflaaGreatDoorRows
namespace Go.Proofs.YtknnooannohflaaGreatDoor
open Go Go.Px Go.Proofs
set_option maxRecDepth 100000
set_option linter.unusedVariables false

theorem strs_of_tab {H : Type} {enc : TypeId × Value → H} {P : Program} {w : World} {base : Nat} {sp : Nat → Bool} {held : Bool} {fuel : Nat} {t e : TypeId} {n : Nat} {cs : List Value} {bs : List (List UInt8)} {p : List MemPlace}
  (ht : P.underlying t = some (.array n e)) (he : P.underlying e = some .string) (hce : P.cellsOf e = 1) (hct : P.cellsOf t = n)
  (h : DataW.trod enc P w base sp held fuel t cs = some (.agg (bs.map fun l => .lit (.string l)), p)) : cs = bs.map fun l => Value.string ⟨l.toArray⟩ := by
 obtain ⟨xs, m, rfl, hx, hl, hxl, hall⟩ := DataW.trod_array ht h
 have hxs : xs.map (·.1) = bs.map fun l => (DataW.lit (.string l) : DataW H) := by
  have := congrArg Prod.fst hx
  simpa using this.symm
 have hbl : bs.length = n := by
  have := congrArg List.length hxs
  simp at this
  omega
 apply List.ext_getElem?
 intro i
 by_cases hi : i < n
 ·have h1 := hall i hi
  obtain ⟨b, hb⟩ : ∃ b, xs[i]? = some b := ⟨xs[i]'(by omega), List.getElem?_eq_getElem (by omega)⟩
  rw [hb, hce, Nat.mul_one] at h1
  obtain ⟨s, hcs, rfl, _⟩ := DataW.trod_string he h1
  have h2 : cs[i]? = some (.string s) := by
   have := congrArg (·[0]?) hcs
   simpa [List.getElem?_take, List.getElem?_drop] using this
  have h3 : (xs.map (·.1))[i]? = some (DataW.lit (.string s.data.toList) : DataW H) := by simp [hb]
  rw [hxs] at h3
  simp only [List.getElem?_map, Option.map_eq_some_iff, DataW.lit.injEq, Lit.string.injEq] at h3
  obtain ⟨l, hl', e⟩ := h3
  subst e
  rw [h2, List.getElem?_map, hl']
  rfl
 ·rw [List.getElem?_eq_none (by omega), List.getElem?_eq_none (by simp; omega)]

def bndB : List (List UInt8) := [[49], [50], [52], [56], [49, 54], [51, 50], [54, 52], [49, 50, 56], [43, 73, 110, 102]]

theorem gl_laid {W : World} (h : laidMetH Tryz.prog [("math/bits.deBruijn32tab", Rows.laid_math_bits_deBruijn32tab), ("math/bits.deBruijn64tab", Rows.laid_math_bits_deBruijn64tab), ("internal/strconv.uint64pow10", Rows.laid_internal_strconv_uint64pow10), ("fusebox/metric.bounds", Rows.laid_fusebox_metric_bounds), ("fusebox/parse.bounds", Rows.laid_fusebox_parse_bounds)] W) : Gl (hof W) W := by
 rw [MakeChecks.laidMetH_plain _ _ _ (by kernel_rfl)] at h
 obtain ⟨g, t, cs, fuel, p, hg, ht, hv, hd⟩ := Lib.laidMet.reads h (n := "fusebox/metric.bounds") (d := Rows.laid_fusebox_metric_bounds) (by simp)
 obtain rfl := Option.some.inj ((show Tryz.prog.globalNamed "fusebox/metric.bounds" = some 0 by kernel_rfl).symm.trans hg)
 obtain rfl := Option.some.inj ((show (Tryz.prog.globals[0]?).map (·.type) = some 160 by kernel_rfl).symm.trans ht)
 have hc := strs_of_tab (n := 9) (e := 9) (bs := bndB) (by kernel_rfl) (by kernel_rfl) (by kernel_rfl) (by kernel_rfl) hd
 have hb : ∃ ty fz, W.heap[0]? = some (.cells cs ty fz) := by
  unfold World.var? at hv
  rw [hg] at hv
  simp only [Option.bind_some] at hv
  split at hv
  ·rename_i cs' ty fz e
   cases hv
   exact ⟨ty, fz, e⟩
  ·cases hv
 obtain ⟨ty, fz, hb⟩ := hb
 obtain ⟨g2, t2, cs2, fuel2, p2, hg2, ht2, hv2, hd2⟩ := Lib.laidMet.reads h (n := "fusebox/parse.bounds") (d := Rows.laid_fusebox_parse_bounds) (by simp)
 obtain rfl := Option.some.inj ((show Tryz.prog.globalNamed "fusebox/parse.bounds" = some 3 by kernel_rfl).symm.trans hg2)
 obtain rfl := Option.some.inj ((show (Tryz.prog.globals[3]?).map (·.type) = some 160 by kernel_rfl).symm.trans ht2)
 have hc2 := strs_of_tab (n := 9) (e := 9) (bs := bndB) (by kernel_rfl) (by kernel_rfl) (by kernel_rfl) (by kernel_rfl) hd2
 have hb2 : ∃ ty fz, W.heap[3]? = some (.cells cs2 ty fz) := by
  unfold World.var? at hv2
  rw [hg2] at hv2
  simp only [Option.bind_some] at hv2
  split at hv2
  ·rename_i cs' ty fz e
   cases hv2
   exact ⟨ty, fz, e⟩
  ·cases hv2
 obtain ⟨ty2, fz2, hb2⟩ := hb2
 obtain ⟨g1, t1, cs1, fuel1, p1, hg1, ht1, hv1, hd1⟩ := Lib.laidMet.reads h (n := "internal/strconv.uint64pow10") (d := Rows.laid_internal_strconv_uint64pow10) (by simp)
 obtain rfl := Option.some.inj ((show Tryz.prog.globalNamed "internal/strconv.uint64pow10" = some 1 by kernel_rfl).symm.trans hg1)
 obtain rfl := Option.some.inj ((show (Tryz.prog.globals[1]?).map (·.type) = some 240 by kernel_rfl).symm.trans ht1)
 have hc1 := Lib.cells_of_tab (n := 20) (e := 184) (k := .u64) (zs := Lib.pow10Tab) (by kernel_rfl) (by kernel_rfl) (by kernel_rfl) (by kernel_rfl) hd1
 have hb1 : ∃ ty fz, W.heap[1]? = some (.cells cs1 ty fz) := by
  unfold World.var? at hv1
  rw [hg1] at hv1
  simp only [Option.bind_some] at hv1
  split at hv1
  ·rename_i cs' ty fz e
   cases hv1
   exact ⟨ty, fz, e⟩
  ·cases hv1
 obtain ⟨ty1, fz1, hb1⟩ := hb1
 have hpw : bnds = bndB.map fun l => SV.val (.string ⟨l.toArray⟩) := by kernel_rfl
 have hpw1 : pow10 = Lib.pow10Tab.map fun z => SV.val (.int .u64 z) := by kernel_rfl
 refine ⟨fun q hq i c hqi => ?_, fun q hq => ?_⟩
 ·simp only [globTab, List.mem_cons, List.not_mem_nil, or_false] at hq
  rcases hq with rfl | rfl | rfl
  ·rw [hpw, List.getElem?_map] at hqi
   obtain ⟨z, hz, rfl⟩ := Option.map_eq_some_iff.1 hqi
   refine ⟨.string ⟨z.toArray⟩, ?_, .val _⟩
   have : cs.toList[i]? = some (.string ⟨z.toArray⟩) := by rw [hc, List.getElem?_map, hz]; rfl
   simp only [hof, World.cell?, hb]
   simpa using this
  ·rw [hpw1, List.getElem?_map] at hqi
   obtain ⟨z, hz, rfl⟩ := Option.map_eq_some_iff.1 hqi
   refine ⟨.int .u64 z, ?_, .val _⟩
   have : cs1.toList[i]? = some (.int .u64 z) := by rw [hc1, List.getElem?_map, hz]; rfl
   simp only [hof, World.cell?, hb1]
   simpa using this
  ·rw [hpw, List.getElem?_map] at hqi
   obtain ⟨z, hz, rfl⟩ := Option.map_eq_some_iff.1 hqi
   refine ⟨.string ⟨z.toArray⟩, ?_, .val _⟩
   have : cs2.toList[i]? = some (.string ⟨z.toArray⟩) := by rw [hc2, List.getElem?_map, hz]; rfl
   simp only [hof, World.cell?, hb2]
   simpa using this
 ·simp only [globTab, List.mem_cons, List.not_mem_nil, or_false] at hq
  rcases hq with rfl | rfl | rfl
  ·refine ⟨by decide, cs, ty, fz, hb, ?_⟩
   have := congrArg List.length hc
   simp only [Array.length_toList, List.length_map] at this
   rw [this]; rfl
  ·refine ⟨by decide, cs1, ty1, fz1, hb1, ?_⟩
   have := congrArg List.length hc1
   simp only [Array.length_toList, List.length_map] at this
   rw [this, hpw1, List.length_map]
  ·refine ⟨by decide, cs2, ty2, fz2, hb2, ?_⟩
   have := congrArg List.length hc2
   simp only [Array.length_toList, List.length_map] at this
   rw [this]; rfl
end Go.Proofs.YtknnooannohflaaGreatDoor
