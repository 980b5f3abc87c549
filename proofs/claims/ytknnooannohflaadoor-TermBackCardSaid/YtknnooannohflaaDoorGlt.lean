/- The listed variables of layer 22's rows: what a row lists of them is what the layer asks. -/
import Derived.Test.YtknnooannohflaaDoorPxJ
import Derived.Lib.LaidU8
import Derived.Shelf.Strconv.Itoa4
import Derived.MakeChecks
import Derived.Stop.LaidErr
import Derived.Test.YtknnooannohflaaDoorRows
namespace Go.Proofs.YtknnooannohflaaDoor
open Go Go.Px Go.Proofs
set_option maxRecDepth 100000
set_option linter.unusedVariables false

theorem star_err : "*" ++ "errors.errorString" = "*errors.errorString" := by decide
theorem row276 (u : TypeId) (h : Tryd.prog.typeName? 3 u = some "*errors.errorString") : u = 276 :=
  Go.typeName_ptr_named (nm := "errors.errorString") (by rw [star_err]; kernel_rfl) (by kernel_rfl) (by decide) u (by rw [star_err]; exact h)

theorem cell_of_var {W : World} {n : String} {k : Nat} {v : Value} (hn : Tryd.prog.globalNamed n = some k) (h : W.var? Tryd.prog n = some #[v]) : ∃ ty fz, W.heap[k]? = some (.cells #[v] ty fz) := by
  unfold World.var? at h
  rw [hn] at h
  simp only [Option.bind_some] at h
  split at h
  · rename_i cs' ty fz e
    cases h
    exact ⟨ty, fz, e⟩
  · cases h

theorem gl_sent {l : List (String × DataW Unit)} {W : World} {n : String} {k : Nat} {text : List UInt8} (h : laidMet Tryd.prog ((n, .iface "*errors.errorString" (.ptr (.agg [.lit (.string text)]))) :: l) W)
    (hn : Tryd.prog.globalNamed n = some k) (ht : (Tryd.prog.globals[k]?).map (·.type) = some 160) : ∃ p ty fz, W.heap[k]? = some (.cells #[.iface 276 p] ty fz) := by
  obtain ⟨a, s, hv, _⟩ := laid_sentinel (tp := 276) (te := 278) (ts := 9) h hn ht Tryd.underlying160 row276 Tryd.underlying276 Tryd.underlying278 rfl rfl Tryd.underlying9 (by kernel_rfl) (by kernel_rfl)
  obtain ⟨ty, fz, e⟩ := cell_of_var hn hv
  exact ⟨_, ty, fz, e⟩

theorem gl_laid {W : World} (h : laidMetH Tryd.prog [("math/bits.deBruijn32tab", Rows.laid_math_bits_deBruijn32tab), ("math/bits.deBruijn64tab", Rows.laid_math_bits_deBruijn64tab), ("internal/strconv.uint64pow10", Rows.laid_internal_strconv_uint64pow10), ("strconv.ErrRange", Rows.laid_strconv_ErrRange), ("strconv.ErrSyntax", Rows.laid_strconv_ErrSyntax)] W) : Gl (hof W) W := by
  rw [MakeChecks.laidMetH_plain _ _ _ (by kernel_rfl)] at h
  obtain ⟨g, t, cs, fuel, p, hg, ht, hv, hd⟩ := Lib.laidMet.reads h (n := "internal/strconv.uint64pow10") (d := Rows.laid_internal_strconv_uint64pow10) (by simp)
  obtain rfl := Option.some.inj ((show Tryd.prog.globalNamed "internal/strconv.uint64pow10" = some 3 by kernel_rfl).symm.trans hg)
  obtain rfl := Option.some.inj ((show (Tryd.prog.globals[3]?).map (·.type) = some 268 by kernel_rfl).symm.trans ht)
  have hc := Lib.cells_of_tab (n := 20) (e := 199) (k := .u64) (zs := Lib.pow10Tab) (by kernel_rfl) (by kernel_rfl) (by kernel_rfl) (by kernel_rfl) hd
  have hb : ∃ ty fz, W.heap[3]? = some (.cells cs ty fz) := by
    unfold World.var? at hv
    rw [hg] at hv
    simp only [Option.bind_some] at hv
    split at hv
    · rename_i cs' ty fz e
      cases hv
      exact ⟨ty, fz, e⟩
    · cases hv
  obtain ⟨ty, fz, hb⟩ := hb
  obtain ⟨p5, ty5, fz5, h5⟩ := gl_sent (k := 5) h.tail.tail.tail (by kernel_rfl) (by kernel_rfl)
  obtain ⟨p4, ty4, fz4, h4⟩ := gl_sent (k := 4) h.tail.tail.tail.tail (by kernel_rfl) (by kernel_rfl)
  have hpw : pow10 = Lib.pow10Tab.map fun z => SV.val (.int .u64 z) := by kernel_rfl
  have hl : pow10.length = 20 := by rw [hpw]; simp; decide +kernel
  have sent : ∀ (k : Nat) (p : Value) ty fz, W.heap[k]? = some (.cells #[.iface 276 p] ty fz) → ∀ i c, ([SV.ifc 276 .unk] : List SV)[i]? = some c → ∃ v, hof W k i = some v ∧ PRep (hof W) v c := fun k p ty fz e i c hi => by
    match i, hi with
    | 0, hi =>
      simp at hi
      subst hi
      exact ⟨.iface 276 p, by simp [hof, World.cell?, e], .ifc _ _ _ (.unk _)⟩
    | i + 1, hi => simp at hi
  refine ⟨fun q hq i c hqi => ?_, fun q hq => ?_⟩
  · simp only [globTab, List.mem_cons, List.not_mem_nil, or_false] at hq
    rcases hq with rfl | rfl | rfl
    · rw [hpw, List.getElem?_map] at hqi
      obtain ⟨z, hz, rfl⟩ := Option.map_eq_some_iff.1 hqi
      refine ⟨.int .u64 z, ?_, .val _⟩
      have : cs.toList[i]? = some (.int .u64 z) := by rw [hc, List.getElem?_map, hz]; rfl
      simp only [hof, World.cell?, hb]
      simpa using this
    · exact sent 4 p4 ty4 fz4 h4 i c hqi
    · exact sent 5 p5 ty5 fz5 h5 i c hqi
  · simp only [globTab, List.mem_cons, List.not_mem_nil, or_false] at hq
    rcases hq with rfl | rfl | rfl
    · refine ⟨by rw [hl]; omega, cs, ty, fz, hb, ?_⟩
      have := congrArg List.length hc
      simp at this
      rw [hl, this]; decide +kernel
    · exact ⟨by simp, _, _, _, h4, rfl⟩
    · exact ⟨by simp, _, _, _, h5, rfl⟩
end Go.Proofs.YtknnooannohflaaDoor
