/- The seat's listed variables: what a row lists of them is what the layer asks. -/
import Derived.Test.YtbocfphenkidnaaGreatDoorPxJ
import Derived.Lib.LaidU8
import Derived.Shelf.Strconv.Itoa4
import Derived.MakeChecks
import Derived.Test.YtbocfphenkidnaaGreatDoorRows
namespace Go.Proofs.YtbocfphenkidnaaGreatDoor
open Go Go.Px Go.Proofs
set_option maxRecDepth 100000
set_option linter.unusedVariables false

theorem gl_laid {l : List (String × DataW Unit)} {W : World} (hp : (l.all fun x => x.2.handleName?.isNone) = true) (hm : ("internal/strconv.uint64pow10", (Rows.laid_internal_strconv_uint64pow10 : DataW Unit)) ∈ l) (h : laidMetH Tryz.prog l W) : Gl (hof W) W := by
 rw [MakeChecks.laidMetH_plain _ _ _ hp] at h
 obtain ⟨g, t, cs, fuel, p, hg, ht, hv, hd⟩ := Lib.laidMet.reads h hm
 obtain rfl := Option.some.inj ((show Tryz.prog.globalNamed "internal/strconv.uint64pow10" = some 0 by kernel_rfl).symm.trans hg)
 obtain rfl := Option.some.inj ((show (Tryz.prog.globals[0]?).map (·.type) = some 264 by kernel_rfl).symm.trans ht)
 have hc := Lib.cells_of_tab (n := 20) (e := 92) (k := .u64) (zs := Lib.pow10Tab) (by kernel_rfl) (by kernel_rfl) (by kernel_rfl) (by kernel_rfl) hd
 have hb : ∃ ty fz, W.heap[0]? = some (.cells cs ty fz) := by
  unfold World.var? at hv
  rw [hg] at hv
  simp only [Option.bind_some] at hv
  split at hv
  ·rename_i cs' ty fz e
   cases hv
   exact ⟨ty, fz, e⟩
  ·cases hv
 obtain ⟨ty, fz, hb⟩ := hb
 have hpw : pow10 = Lib.pow10Tab.map fun z => SV.val (.int .u64 z) := by kernel_rfl
 have hl : pow10.length = 20 := by rw [hpw]; simp; decide +kernel
 refine ⟨fun q hq i c hqi => ?_, fun q hq => ?_⟩
 ·simp only [globTab, List.mem_singleton] at hq
  subst hq
  rw [hpw, List.getElem?_map] at hqi
  obtain ⟨z, hz, rfl⟩ := Option.map_eq_some_iff.1 hqi
  refine ⟨.int .u64 z, ?_, .val _⟩
  have : cs.toList[i]? = some (.int .u64 z) := by rw [hc, List.getElem?_map, hz]; rfl
  simp only [hof, World.cell?, hb]
  simpa using this
 ·simp only [globTab, List.mem_singleton] at hq
  subst hq
  refine ⟨by rw [hl]; omega, cs, ty, fz, hb, ?_⟩
  have := congrArg List.length hc
  simp at this
  rw [hl, this]; decide +kernel

end Go.Proofs.YtbocfphenkidnaaGreatDoor
