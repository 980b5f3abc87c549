/- slices.Insert, Delete, DeleteFunc at elements of several cells: the conditions. -/
import Derived.Test.YtohmeljljamigaaPxK
import Derived.Test.YtohmeljljamigaaProg
import Derived.Test.YtohmeljljamigaaCmp12
import Derived.Test.YtohmeljljamigaaGen
import Derived.Test.YtohmeljljamigaaCmp10
import Derived.Laws.Externs
namespace Go.Proofs.Ytohmeljljamigaa.Ins
open Go Go.Px Go.Proofs
set_option maxRecDepth 100000
set_option linter.unusedVariables false

abbrev OO : Sig := ⟨[.own], [.own]⟩
def SgT : FuncId → Sig := (fun f => bif Nat.beq f 85 then ⟨[.own], [.own]⟩ else bif Nat.beq f 100 then ⟨[.own], [.own]⟩ else bif Nat.beq f 113 then ⟨[.own], [.own]⟩ else bif Nat.beq f 149 then ⟨[.own], [.own]⟩ else {})
def SvT : TypeId → Sig := fun _ => {}
theorem cinsert_nf (rows : List (List SV)) (i : Int) (v : List (List SV)) (Q : List SV → Prop) (h : ∀ x : Int, ((rlen rows) ≤ x) → (x ≤ 9223372036854775807) → (((0 : Int) ≤ i) ∧ ((i ≤ (isub (rlen rows) 0)) ∧ ((isub (rlen rows) 0) ≤ (isub x 0)))) ∧ (ifB (ieq (rlen v) 0) (((rlen rows) ≤ (rlen rows)) ∧ (Q [SL 21 (rsub rows 0 (rlen rows))])) (ifB (ieq i (isub (rlen rows) 0)) (((rlen rows) ≤ (rlen rows)) ∧ ((((lsum (rlen rows) (rlen v)) ≤ x) → ((lsum (rlen rows) (rlen v)) ≤ (rlen (rput rows (rlen rows) v))) ∧ (Q [SL 21 (rsub (rput rows (rlen rows) v) 0 (lsum (rlen rows) (rlen v)))])) ∧ ((x < (lsum (rlen rows) (rlen v))) → ((lsum (isub (rlen rows) 0) (rlen v)) ≤ ((2147483648 : Int))) ∧ (Q [SL 21 (rapp (rsub rows 0 (rlen rows)) v)])))) (ifB (igt (wadd IntKind.i64 (isub (rlen rows) 0) (rlen v)) (isub x 0)) ((((0 : Int) ≤ 0) ∧ (((0 : Int) ≤ i) ∧ (i ≤ (isub x 0)))) ∧ (((((0 : Int) ≤ (wsub IntKind.i64 (wadd IntKind.i64 (isub (rlen rows) 0) (rlen v)) i)) ∧ ((wsub IntKind.i64 (wadd IntKind.i64 (isub (rlen rows) 0) (rlen v)) i) ≤ ((2147483648 : Int)))) ∧ ((x < (lsum (lsum 0 i) (wsub IntKind.i64 (wadd IntKind.i64 (isub (rlen rows) 0) (rlen v)) i))) ∧ ((lsum (isub (lsum 0 i) ((0 : Int))) (wsub IntKind.i64 (wadd IntKind.i64 (isub (rlen rows) 0) (rlen v)) i)) ≤ ((2147483648 : Int))))) ∧ ((((lsum 0 i) ≤ (rlen rows)) → ∀ x1 : Int, ((lsum (isub (lsum 0 i) ((0 : Int))) (wsub IntKind.i64 (wadd IntKind.i64 (isub (rlen rows) 0) (rlen v)) i)) ≤ x1) → (x1 ≤ 9223372036854775807) → (((0 : Int) ≤ i) ∧ ((i ≤ (isub (lsum (isub (lsum 0 i) ((0 : Int))) (wsub IntKind.i64 (wadd IntKind.i64 (isub (rlen rows) 0) (rlen v)) i)) 0)) ∧ ((isub (lsum (isub (lsum 0 i) ((0 : Int))) (wsub IntKind.i64 (wadd IntKind.i64 (isub (rlen rows) 0) (rlen v)) i)) 0) ≤ (isub x1 0)))) ∧ ((((lsum 0 i) ≤ (rlen (rapp (rsub rows ((0 : Int)) (lsum 0 i)) (rrep (wsub IntKind.i64 (wadd IntKind.i64 (isub (rlen rows) 0) (rlen v)) i) ([S (ByteArray.mk (Array.mk [])), I 0, I 0, I 0, I 0, SL 2 [], I 0, I 0, I 0, I 0, I 0, I 0, I 0, I 0, I 0, I 0, I 0, I 0, I 0, I 0, I 0]))))) ∧ ((rlen v) ≤ (isub (lsum (isub (lsum 0 i) ((0 : Int))) (wsub IntKind.i64 (wadd IntKind.i64 (isub (rlen rows) 0) (rlen v)) i)) (lsum 0 i)))) ∧ ((((0 : Int) ≤ (wadd IntKind.i64 i (rlen v))) ∧ (((wadd IntKind.i64 i (rlen v)) ≤ (isub (lsum (isub (lsum 0 i) ((0 : Int))) (wsub IntKind.i64 (wadd IntKind.i64 (isub (rlen rows) 0) (rlen v)) i)) 0)) ∧ ((isub (lsum (isub (lsum 0 i) ((0 : Int))) (wsub IntKind.i64 (wadd IntKind.i64 (isub (rlen rows) 0) (rlen v)) i)) 0) ≤ (isub x1 0)))) ∧ ((((0 : Int) ≤ i) ∧ ((i ≤ (isub (rlen rows) 0)) ∧ ((isub (rlen rows) 0) ≤ (isub x 0)))) ∧ ((((lsum 0 (wadd IntKind.i64 i (rlen v))) ≤ (rlen (rput (rapp (rsub rows ((0 : Int)) (lsum 0 i)) (rrep (wsub IntKind.i64 (wadd IntKind.i64 (isub (rlen rows) 0) (rlen v)) i) ([S (ByteArray.mk (Array.mk [])), I 0, I 0, I 0, I 0, SL 2 [], I 0, I 0, I 0, I 0, I 0, I 0, I 0, I 0, I 0, I 0, I 0, I 0, I 0, I 0, I 0]))) (lsum 0 i) v))) ∧ ((lsum (lsum 0 i) (imin (isub (rlen rows) (lsum 0 i)) (isub (lsum (isub (lsum 0 i) ((0 : Int))) (wsub IntKind.i64 (wadd IntKind.i64 (isub (rlen rows) 0) (rlen v)) i)) (lsum 0 (wadd IntKind.i64 i (rlen v)))))) ≤ (rlen rows))) ∧ (((lsum (isub (lsum 0 i) ((0 : Int))) (wsub IntKind.i64 (wadd IntKind.i64 (isub (rlen rows) 0) (rlen v)) i)) ≤ (rlen (rput (rput (rapp (rsub rows ((0 : Int)) (lsum 0 i)) (rrep (wsub IntKind.i64 (wadd IntKind.i64 (isub (rlen rows) 0) (rlen v)) i) ([S (ByteArray.mk (Array.mk [])), I 0, I 0, I 0, I 0, SL 2 [], I 0, I 0, I 0, I 0, I 0, I 0, I 0, I 0, I 0, I 0, I 0, I 0, I 0, I 0, I 0]))) (lsum 0 i) v) (lsum 0 (wadd IntKind.i64 i (rlen v))) (rsub rows (lsum 0 i) (lsum (lsum 0 i) (imin (isub (rlen rows) (lsum 0 i)) (isub (lsum (isub (lsum 0 i) ((0 : Int))) (wsub IntKind.i64 (wadd IntKind.i64 (isub (rlen rows) 0) (rlen v)) i)) (lsum 0 (wadd IntKind.i64 i (rlen v)))))))))) ∧ (Q ([SV.slice 21 (rsub (rput (rput (rapp (rsub rows ((0 : Int)) (lsum 0 i)) (rrep (wsub IntKind.i64 (wadd IntKind.i64 (isub (rlen rows) 0) (rlen v)) i) ([S (ByteArray.mk (Array.mk [])), I 0, I 0, I 0, I 0, SL 2 [], I 0, I 0, I 0, I 0, I 0, I 0, I 0, I 0, I 0, I 0, I 0, I 0, I 0, I 0, I 0]))) (lsum 0 i) v) (lsum 0 (wadd IntKind.i64 i (rlen v))) (rsub rows (lsum 0 i) (lsum (lsum 0 i) (imin (isub (rlen rows) (lsum 0 i)) (isub (lsum (isub (lsum 0 i) ((0 : Int))) (wsub IntKind.i64 (wadd IntKind.i64 (isub (rlen rows) 0) (rlen v)) i)) (lsum 0 (wadd IntKind.i64 i (rlen v)))))))) 0 (lsum (isub (lsum 0 i) ((0 : Int))) (wsub IntKind.i64 (wadd IntKind.i64 (isub (rlen rows) 0) (rlen v)) i))) 0])))))))) ∧ (((rlen rows) < (lsum 0 i)) → ∀ x1 : Int, ((lsum (isub (lsum 0 i) ((0 : Int))) (wsub IntKind.i64 (wadd IntKind.i64 (isub (rlen rows) 0) (rlen v)) i)) ≤ x1) → (x1 ≤ 9223372036854775807) → (((0 : Int) ≤ i) ∧ ((i ≤ (isub (lsum (isub (lsum 0 i) ((0 : Int))) (wsub IntKind.i64 (wadd IntKind.i64 (isub (rlen rows) 0) (rlen v)) i)) 0)) ∧ ((isub (lsum (isub (lsum 0 i) ((0 : Int))) (wsub IntKind.i64 (wadd IntKind.i64 (isub (rlen rows) 0) (rlen v)) i)) 0) ≤ (isub x1 0)))) ∧ ((((lsum 0 i) ≤ (rlen (rsub rows ((0 : Int)) (rlen rows)))) ∧ ((rlen v) ≤ (isub (lsum (isub (lsum 0 i) ((0 : Int))) (wsub IntKind.i64 (wadd IntKind.i64 (isub (rlen rows) 0) (rlen v)) i)) (lsum 0 i)))) ∧ ((((0 : Int) ≤ (wadd IntKind.i64 i (rlen v))) ∧ (((wadd IntKind.i64 i (rlen v)) ≤ (isub (lsum (isub (lsum 0 i) ((0 : Int))) (wsub IntKind.i64 (wadd IntKind.i64 (isub (rlen rows) 0) (rlen v)) i)) 0)) ∧ ((isub (lsum (isub (lsum 0 i) ((0 : Int))) (wsub IntKind.i64 (wadd IntKind.i64 (isub (rlen rows) 0) (rlen v)) i)) 0) ≤ (isub x1 0)))) ∧ ((((0 : Int) ≤ i) ∧ ((i ≤ (isub (rlen rows) 0)) ∧ ((isub (rlen rows) 0) ≤ (isub x 0)))) ∧ ((((lsum 0 (wadd IntKind.i64 i (rlen v))) ≤ (rlen (rput (rsub rows ((0 : Int)) (rlen rows)) (lsum 0 i) v))) ∧ ((lsum (lsum 0 i) (imin (isub (rlen rows) (lsum 0 i)) (isub (lsum (isub (lsum 0 i) ((0 : Int))) (wsub IntKind.i64 (wadd IntKind.i64 (isub (rlen rows) 0) (rlen v)) i)) (lsum 0 (wadd IntKind.i64 i (rlen v)))))) ≤ (rlen rows))) ∧ (((lsum (isub (lsum 0 i) ((0 : Int))) (wsub IntKind.i64 (wadd IntKind.i64 (isub (rlen rows) 0) (rlen v)) i)) ≤ (rlen (rput (rput (rsub rows ((0 : Int)) (rlen rows)) (lsum 0 i) v) (lsum 0 (wadd IntKind.i64 i (rlen v))) (rsub rows (lsum 0 i) (lsum (lsum 0 i) (imin (isub (rlen rows) (lsum 0 i)) (isub (lsum (isub (lsum 0 i) ((0 : Int))) (wsub IntKind.i64 (wadd IntKind.i64 (isub (rlen rows) 0) (rlen v)) i)) (lsum 0 (wadd IntKind.i64 i (rlen v)))))))))) ∧ (Q [SV.slice 21 (rsub (rput (rput (rsub rows ((0 : Int)) (rlen rows)) (lsum 0 i) v) (lsum 0 (wadd IntKind.i64 i (rlen v))) (rsub rows (lsum 0 i) (lsum (lsum 0 i) (imin (isub (rlen rows) (lsum 0 i)) (isub (lsum (isub (lsum 0 i) ((0 : Int))) (wsub IntKind.i64 (wadd IntKind.i64 (isub (rlen rows) 0) (rlen v)) i)) (lsum 0 (wadd IntKind.i64 i (rlen v)))))))) 0 (lsum (isub (lsum 0 i) ((0 : Int))) (wsub IntKind.i64 (wadd IntKind.i64 (isub (rlen rows) 0) (rlen v)) i))) 0])))))))))) ((((0 : Int) ≤ 0) ∧ (((0 : Int) ≤ (wadd IntKind.i64 (isub (rlen rows) 0) (rlen v))) ∧ ((wadd IntKind.i64 (isub (rlen rows) 0) (rlen v)) ≤ (isub x 0)))) ∧ ((((0 : Int) ≤ (wadd IntKind.i64 i (rlen v))) ∧ (((wadd IntKind.i64 i (rlen v)) ≤ (isub (lsum 0 (wadd IntKind.i64 (isub (rlen rows) 0) (rlen v))) ((0 : Int)))) ∧ ((isub (lsum 0 (wadd IntKind.i64 (isub (rlen rows) 0) (rlen v))) ((0 : Int))) ≤ (isub x ((0 : Int)))))) ∧ ((fovl Try.prog 160 62) ∧ (ifB (bnot false) ((((0 : Int) ≤ (wadd IntKind.i64 i (rlen v))) ∧ (((wadd IntKind.i64 i (rlen v)) ≤ (isub (lsum 0 (wadd IntKind.i64 (isub (rlen rows) 0) (rlen v))) ((0 : Int)))) ∧ ((isub (lsum 0 (wadd IntKind.i64 (isub (rlen rows) 0) (rlen v))) ((0 : Int))) ≤ (isub x ((0 : Int)))))) ∧ ((((0 : Int) ≤ i) ∧ ((i ≤ (isub (lsum 0 (wadd IntKind.i64 (isub (rlen rows) 0) (rlen v))) ((0 : Int)))) ∧ ((isub (lsum 0 (wadd IntKind.i64 (isub (rlen rows) 0) (rlen v))) ((0 : Int))) ≤ (isub x ((0 : Int)))))) ∧ ((((lsum ((0 : Int)) (wadd IntKind.i64 i (rlen v))) ≤ (rlen rows)) ∧ ((lsum (lsum ((0 : Int)) i) (imin (isub (lsum 0 (wadd IntKind.i64 (isub (rlen rows) 0) (rlen v))) (lsum ((0 : Int)) i)) (isub (lsum 0 (wadd IntKind.i64 (isub (rlen rows) 0) (rlen v))) (lsum ((0 : Int)) (wadd IntKind.i64 i (rlen v)))))) ≤ (rlen rows))) ∧ ((((0 : Int) ≤ i) ∧ ((i ≤ (isub (lsum 0 (wadd IntKind.i64 (isub (rlen rows) 0) (rlen v))) ((0 : Int)))) ∧ ((isub (lsum 0 (wadd IntKind.i64 (isub (rlen rows) 0) (rlen v))) ((0 : Int))) ≤ (isub x ((0 : Int)))))) ∧ ((((lsum ((0 : Int)) i) ≤ (rlen (rput rows (lsum ((0 : Int)) (wadd IntKind.i64 i (rlen v))) (rsub rows (lsum ((0 : Int)) i) (lsum (lsum ((0 : Int)) i) (imin (isub (lsum 0 (wadd IntKind.i64 (isub (rlen rows) 0) (rlen v))) (lsum ((0 : Int)) i)) (isub (lsum 0 (wadd IntKind.i64 (isub (rlen rows) 0) (rlen v))) (lsum ((0 : Int)) (wadd IntKind.i64 i (rlen v)))))))))) ∧ ((rlen v) ≤ (isub (lsum 0 (wadd IntKind.i64 (isub (rlen rows) 0) (rlen v))) (lsum ((0 : Int)) i)))) ∧ (((lsum 0 (wadd IntKind.i64 (isub (rlen rows) 0) (rlen v))) ≤ (rlen (rput (rput rows (lsum ((0 : Int)) (wadd IntKind.i64 i (rlen v))) (rsub rows (lsum ((0 : Int)) i) (lsum (lsum ((0 : Int)) i) (imin (isub (lsum 0 (wadd IntKind.i64 (isub (rlen rows) 0) (rlen v))) (lsum ((0 : Int)) i)) (isub (lsum 0 (wadd IntKind.i64 (isub (rlen rows) 0) (rlen v))) (lsum ((0 : Int)) (wadd IntKind.i64 i (rlen v)))))))) (lsum ((0 : Int)) i) v))) ∧ (Q [SV.slice 21 (rsub (rput (rput rows (lsum ((0 : Int)) (wadd IntKind.i64 i (rlen v))) (rsub rows (lsum ((0 : Int)) i) (lsum (lsum ((0 : Int)) i) (imin (isub (lsum 0 (wadd IntKind.i64 (isub (rlen rows) 0) (rlen v))) (lsum ((0 : Int)) i)) (isub (lsum 0 (wadd IntKind.i64 (isub (rlen rows) 0) (rlen v))) (lsum ((0 : Int)) (wadd IntKind.i64 i (rlen v)))))))) (lsum ((0 : Int)) i) v) 0 (lsum 0 (wadd IntKind.i64 (isub (rlen rows) 0) (rlen v)))) 0]))))))) ((((0 : Int) ≤ (isub (rlen rows) 0)) ∧ (((isub (rlen rows) 0) ≤ (isub (lsum 0 (wadd IntKind.i64 (isub (rlen rows) 0) (rlen v))) ((0 : Int)))) ∧ ((isub (lsum 0 (wadd IntKind.i64 (isub (rlen rows) 0) (rlen v))) ((0 : Int))) ≤ (isub x ((0 : Int)))))) ∧ ((((lsum ((0 : Int)) (isub (rlen rows) 0)) ≤ (rlen rows)) ∧ ((rlen v) ≤ (isub (lsum 0 (wadd IntKind.i64 (isub (rlen rows) 0) (rlen v))) (lsum ((0 : Int)) (isub (rlen rows) 0))))) ∧ ((((0 : Int) ≤ i) ∧ ((i ≤ (isub (lsum 0 (wadd IntKind.i64 (isub (rlen rows) 0) (rlen v))) ((0 : Int)))) ∧ ((isub (lsum 0 (wadd IntKind.i64 (isub (rlen rows) 0) (rlen v))) ((0 : Int))) ≤ (isub x ((0 : Int)))))) ∧ False))))))))))) : Ct Try.prog 113 ⟨[.own], [.own]⟩ [SL 21 rows, I i, SL 21 v] Q :=
  fn_of (f := 113) SgT SvT (fun k => bif Nat.beq k 3000000 then some ({} : LoopSpec) else none) Try.f113 Try.func113 (by kernel_rfl) (by kernel_rfl) h

end Go.Proofs.Ytohmeljljamigaa.Ins

namespace Go.Proofs.Ytohmeljljamigaa.Ins
open Go Go.Px Go.Proofs
set_option maxRecDepth 100000
set_option linter.unusedVariables false

theorem isub_eq (a b : Int) : isub a b = a - b := rfl
theorem rput_len (R Z : List (List SV)) (k : Nat) (hk : k ≤ R.length) : (rput R k Z).length = k + Z.length + (R.length - (k + Z.length)) := by
  simp [rput]; omega
theorem rput_take2 (R Z : List (List SV)) (k : Nat) (hk : k ≤ R.length) : (rput R k Z).take (k + Z.length) = R.take k ++ Z := by
  simp only [rput, Int.toNat_natCast]
  rw [List.take_append_of_le_length (by simp; omega)]
  rw [List.take_of_length_le (by simp; omega)]
theorem rsub0 (R : List (List SV)) (k : Nat) : rsub R 0 (k : Int) = R.take k := by simp [rsub]
theorem rsubE (R : List (List SV)) (k : Nat) : rsub R (k : Int) (R.length : Int) = R.drop k := by simp [rsub]

/-- Rows of a file's cells. -/
def isFil (r : List SV) : Prop := ∃ s l1 l2, r = [S s, SL 1 l1, SL 1 l2]

end Go.Proofs.Ytohmeljljamigaa.Ins

namespace Go.Proofs.Ytohmeljljamigaa.Ins
open Go Go.Px Go.Proofs
set_option maxRecDepth 100000
set_option linter.unusedVariables false

theorem cinsert_fn (rows : List (List SV)) (i : Nat) (r : List SV) (hi : i ≤ rows.length) (hlen : rows.length ≤ 1000000) (ho : fovl Try.prog 160 62) :
    Ct Try.prog 113 OO [SL 21 rows, I i, SL 21 [r]] (fun x => x = [SL 21 (rows.take i ++ r :: rows.drop i)]) := by
  refine cinsert_nf _ _ _ _ fun x hx hxm => ?_
  have w1 : wadd IntKind.i64 (rows.length : Int) 1 = rows.length + 1 := wadd_i64 (by omega) (by omega)
  have w2 : wadd IntKind.i64 (i : Int) 1 = i + 1 := wadd_i64 (by omega) (by omega)
  have w3 : wsub IntKind.i64 ((rows.length : Int) + 1) i = rows.length + 1 - i := wsub_i64 (by omega) (by omega)
  have hone : (([r] : List (List SV)).length : Int) = 1 := rfl
  simp only [rlen_eq, lsum_eq, isub_eq, Int.zero_add, Int.sub_zero, hone, w1, w2, w3, imin_eq] at hx ⊢
  refine ⟨⟨by omega, by omega, by omega⟩, ifB_intro (fun h => ?_) (fun _ => ifB_intro (fun h => ⟨by omega, fun h1 => ⟨?_, ?_⟩, fun h1 => ⟨by omega, ?_⟩⟩) (fun h => ifB_intro (fun h1 => ?_) (fun h1 => ?_)))⟩
  · simp at h
  · rw [rput_len _ _ _ (Nat.le_refl _)]; simp
  · simp at h
    have h : i = rows.length := by omega
    subst h
    rw [show ((rows.length : Int) + 1) = ((rows.length + 1 : Nat) : Int) by simp, rsub0, show rows.length + 1 = rows.length + [r].length from rfl, rput_take2 _ _ _ (Nat.le_refl _)]
    simp
  · simp at h
    have h : i = rows.length := by omega
    subst h
    simp [rapp, rsub]
  · simp at h h1
    have e0 : (i : Int) + ((rows.length : Int) + 1 - i) = ((rows.length + 1 : Nat) : Int) := by omega
    have e1 : rrep ((rows.length : Int) + 1 - i) ([S (ByteArray.mk (Array.mk [])), I 0, I 0, I 0, I 0, SL 2 [], I 0, I 0, I 0, I 0, I 0, I 0, I 0, I 0, I 0, I 0, I 0, I 0, I 0, I 0, I 0]) = List.replicate (rows.length + 1 - i) ([S (ByteArray.mk (Array.mk [])), I 0, I 0, I 0, I 0, SL 2 [], I 0, I 0, I 0, I 0, I 0, I 0, I 0, I 0, I 0, I 0, I 0, I 0, I 0, I 0, I 0]) := by unfold rrep; congr 1; omega
    have e2 : (i : Int) + min ((rows.length : Int) - i) (((rows.length + 1 : Nat) : Int) - ((i + 1 : Nat) : Int)) = rows.length := by omega
    have e3 : ((i : Int) + 1) = ((i + 1 : Nat) : Int) := by simp
    simp only [e0, e1, rsub0, e3, e2, rsubE]
    have l0 : (rapp (rows.take i) (List.replicate (rows.length + 1 - i) ([S (ByteArray.mk (Array.mk [])), I 0, I 0, I 0, I 0, SL 2 [], I 0, I 0, I 0, I 0, I 0, I 0, I 0, I 0, I 0, I 0, I 0, I 0, I 0, I 0, I 0]))).length = rows.length + 1 := by simp [rapp]; omega
    have l1 : (rput (rapp (rows.take i) (List.replicate (rows.length + 1 - i) ([S (ByteArray.mk (Array.mk [])), I 0, I 0, I 0, I 0, SL 2 [], I 0, I 0, I 0, I 0, I 0, I 0, I 0, I 0, I 0, I 0, I 0, I 0, I 0, I 0, I 0]))) i [r]).length = rows.length + 1 := by rw [rput_len _ _ _ (by omega), l0]; simp; omega
    have l2 : (rput (rput (rapp (rows.take i) (List.replicate (rows.length + 1 - i) ([S (ByteArray.mk (Array.mk [])), I 0, I 0, I 0, I 0, SL 2 [], I 0, I 0, I 0, I 0, I 0, I 0, I 0, I 0, I 0, I 0, I 0, I 0, I 0, I 0, I 0]))) i [r]) ((i + 1 : Nat) : Int) (rows.drop i)).length = rows.length + 1 := by rw [rput_len _ _ _ (by omega), l1]; simp; omega
    refine ⟨⟨by omega, by omega, by omega⟩, ⟨⟨by omega, by omega⟩, by omega, by omega⟩, fun h2 x1 hx1 hxm1 => ⟨⟨by omega, by omega, by omega⟩, ⟨by rw [l0]; omega, by omega⟩, ⟨by omega, by omega, by omega⟩, ⟨by omega, by omega, by omega⟩, ⟨by rw [l1]; omega, by omega⟩, by rw [l2]; omega, ?_⟩, fun h2 => by omega⟩
    have t2 := rput_take2 (rput (rapp (rows.take i) (List.replicate (rows.length + 1 - i) ([S (ByteArray.mk (Array.mk [])), I 0, I 0, I 0, I 0, SL 2 [], I 0, I 0, I 0, I 0, I 0, I 0, I 0, I 0, I 0, I 0, I 0, I 0, I 0, I 0, I 0]))) i [r]) (rows.drop i) (i + 1) (by rw [l1]; omega)
    rw [show (i + 1) + (rows.drop i).length = rows.length + 1 by simp; omega] at t2
    have t1 := rput_take2 (rapp (rows.take i) (List.replicate (rows.length + 1 - i) ([S (ByteArray.mk (Array.mk [])), I 0, I 0, I 0, I 0, SL 2 [], I 0, I 0, I 0, I 0, I 0, I 0, I 0, I 0, I 0, I 0, I 0, I 0, I 0, I 0, I 0]))) [r] i (by rw [l0]; omega)
    rw [t2, show i + 1 = i + [r].length from rfl, t1]
    simp [rapp, hi]
  · simp at h h1
    have hlt : i < rows.length := by omega
    have e2 : (i : Int) + min ((rows.length : Int) + 1 - i) ((rows.length : Int) + 1 - (i + 1)) = rows.length := by omega
    have e3 : ((i : Int) + 1) = ((i + 1 : Nat) : Int) := by simp
    have e4 : ((rows.length : Int) + 1) = ((rows.length + 1 : Nat) : Int) := by simp
    simp only [e2, rsubE]
    have l1 : (rput rows ((i : Int) + 1) (rows.drop i)).length = rows.length + 1 := by rw [e3, rput_len _ _ _ (by omega)]; simp; omega
    have l2 : (rput (rput rows ((i : Int) + 1) (rows.drop i)) (i : Int) [r]).length = rows.length + 1 := by rw [rput_len _ _ _ (by omega), l1]; simp; omega
    refine ⟨⟨by omega, by omega, by omega⟩, ⟨by omega, by omega, by omega⟩, ho, ifB_intro (fun _ => ⟨⟨by omega, by omega, by omega⟩, ⟨by omega, by omega, by omega⟩, ⟨by omega, by omega⟩, ⟨by omega, by omega, by omega⟩, ⟨by rw [l1]; omega, by omega⟩, by rw [l2]; omega, ?_⟩) (fun hb => by simp at hb)⟩
    rw [e4, rsub0, List.take_of_length_le (by rw [l2]; exact Nat.le_refl _)]
    have d0 : rows.drop (i + 1 + (rows.drop i).length) = [] := List.drop_eq_nil_of_le (by simp; omega)
    simp only [rput, e3, Int.toNat_natCast, d0, List.append_nil]
    rw [List.take_append_of_le_length (by simp; omega), List.take_take, Nat.min_eq_left (by omega), List.drop_append_of_le_length (by simp; omega), List.drop_of_length_le (by simp; omega)]
    simp

end Go.Proofs.Ytohmeljljamigaa.Ins

namespace Go.Proofs.Ytohmeljljamigaa.St
open Go Go.Px Go.Proofs Go.Proofs.Ytohmeljljamigaa.Cmp
set_option maxRecDepth 100000
set_option linter.unusedVariables false

abbrev st3 (rows : List (List SV)) (s a : Int) : SV := .agg [SL 21 rows, I s, I a]
def SgT : FuncId → Sig := (fun f => bif Nat.beq f 109 then ⟨[], [.own]⟩ else bif Nat.beq f 113 then ⟨[.own], [.own]⟩ else {})
def SvT : TypeId → Sig := fun _ => {}
theorem sshort_nf (rows : List (List SV)) (q t : Int) (Q : List SV → Prop) (h : ∃ Inv : Bool → Int → Prop, ∃ m : Bool → Int → Nat, (Inv false 0) ∧ (∀ b : Bool, ∀ x : Int, (Inv b x) → ifB (ilt x (rlen rows)) ((((0 : Int) ≤ x) ∧ (x < (rlen rows))) ∧ (∃ s : ByteArray, ∃ x1 : Int, ∃ x2 : Int, ∃ x3 : Int, ∃ x4 : Int, ∃ l : List (List SV), ∃ x5 : Int, ∃ x6 : Int, ∃ x7 : Int, ∃ x8 : Int, ∃ x9 : Int, ∃ x10 : Int, ∃ x11 : Int, ∃ x12 : Int, ∃ x13 : Int, ∃ x14 : Int, ∃ x15 : Int, ∃ x16 : Int, ∃ x17 : Int, ∃ x18 : Int, ∃ x19 : Int, (rget rows x = [S s, I x1, I x2, I x3, I x4, SL 2 l, I x5, I x6, I x7, I x8, I x9, I x10, I x11, I x12, I x13, I x14, I x15, I x16, I x17, I x18, I x19]) ∧ (Cl Try.prog 102 sP ([SV.agg [S s, I x1, I x2, I x3, I x4, SL 2 l, I x5, I x6, I x7, I x8, I x9, I x10, I x11, I x12, I x13, I x14, I x15, I x16, I x17, I x18, I x19]]) (fun (rs : List SV) => ∃ b1 : Bool, (rs = [B b1]) ∧ (ifB (bnot b1) (Q [B false]) ((Option.some ([[SL 21 rows, I q, I t]]) = Option.some ([[SL 21 rows, I q, I t]])) ∧ ((Inv b (wadd IntKind.i64 x 1)) ∧ (Nat.le (Nat.succ (m b (wadd IntKind.i64 x 1))) (m b x))))))))) (Q [B (ile (rlen rows) 20)]))) : Ct Try.prog 43 {} [st3 rows q t] Q :=
  fn_of (f := 43) SgT SvT (fun _ => none) Try.f43 Try.func43 (by kernel_rfl) (by kernel_rfl) h

theorem snames_nf (rows : List (List SV)) (Q : List SV → Prop) (h : ∃ Inv : Bool → Int → Prop, ∃ m : Bool → Int → Nat, (Inv false 0) ∧ (∀ b : Bool, ∀ x : Int, (Inv b x) → ifB (ilt x (rlen rows)) ((((0 : Int) ≤ x) ∧ (x < (rlen rows))) ∧ (∃ x1 : Int, ∃ x2 : Int, ∃ x3 : Int, ∃ s : ByteArray, ∃ x4 : Int, ∃ x5 : Int, ∃ x6 : Int, (rget rows x = [I x1, I x2, I x3, S s, I x4, I x5, I x6]) ∧ (ifB (igt (slen s) 100) (Q [B false]) (((Option.some [] : Option (List (List SV))) = Option.some []) ∧ ((Inv b (wadd IntKind.i64 x 1)) ∧ (Nat.le (Nat.succ (m b (wadd IntKind.i64 x 1))) (m b x))))))) (Q [B true]))) : Ct Try.prog 44 {} [SL 7 rows] Q :=
  fn_of (f := 44) SgT SvT (fun _ => none) Try.f44 Try.func44 (by kernel_rfl) (by kernel_rfl) h

theorem sright_nf (rows : List (List SV)) (q t : Int) (Q : List SV → Prop) (h : ifB (bpick (bpick (bpick (bpick (igt (rlen rows) 12) true (ilt q 0)) true (igt q 4294967296)) true (ilt t 0)) true (igt t 1099511627776)) (Q [B false]) (∃ Inv : Bool → Int → Prop, ∃ m : Bool → Int → Nat, (Inv false 0) ∧ (∀ b : Bool, ∀ x : Int, (Inv b x) → ifB (ilt x (rlen rows)) ((((0 : Int) ≤ x) ∧ (x < (rlen rows))) ∧ (∃ s : ByteArray, ∃ x1 : Int, ∃ x2 : Int, ∃ x3 : Int, ∃ x4 : Int, ∃ l : List (List SV), ∃ x5 : Int, ∃ x6 : Int, ∃ x7 : Int, ∃ x8 : Int, ∃ x9 : Int, ∃ x10 : Int, ∃ x11 : Int, ∃ x12 : Int, ∃ x13 : Int, ∃ x14 : Int, ∃ x15 : Int, ∃ x16 : Int, ∃ x17 : Int, ∃ x18 : Int, ∃ x19 : Int, (rget rows x = [S s, I x1, I x2, I x3, I x4, SL 2 l, I x5, I x6, I x7, I x8, I x9, I x10, I x11, I x12, I x13, I x14, I x15, I x16, I x17, I x18, I x19]) ∧ (Cl Try.prog 103 sP ([SV.agg [S s, I x1, I x2, I x3, I x4, SL 2 l, I x5, I x6, I x7, I x8, I x9, I x10, I x11, I x12, I x13, I x14, I x15, I x16, I x17, I x18, I x19]]) (fun (rs : List SV) => ∃ b1 : Bool, (rs = [B b1]) ∧ (ifB (bnot b1) (Q [B false]) (ifB (igt x 0) ((((0 : Int) ≤ (wsub IntKind.i64 x 1)) ∧ ((wsub IntKind.i64 x 1) < (rlen rows))) ∧ (∃ s1 : ByteArray, ∃ x20 : Int, ∃ x21 : Int, ∃ x22 : Int, ∃ x23 : Int, ∃ l1 : List (List SV), ∃ x24 : Int, ∃ x25 : Int, ∃ x26 : Int, ∃ x27 : Int, ∃ x28 : Int, ∃ x29 : Int, ∃ x30 : Int, ∃ x31 : Int, ∃ x32 : Int, ∃ x33 : Int, ∃ x34 : Int, ∃ x35 : Int, ∃ x36 : Int, ∃ x37 : Int, ∃ x38 : Int, (rget rows (wsub IntKind.i64 x 1) = [S s1, I x20, I x21, I x22, I x23, SL 2 l1, I x24, I x25, I x26, I x27, I x28, I x29, I x30, I x31, I x32, I x33, I x34, I x35, I x36, I x37, I x38]) ∧ (ifB (sge s1 s) (Q [B false]) ((Option.some ([[SL 21 rows, I q, I t]]) = Option.some ([[SL 21 rows, I q, I t]])) ∧ ((Inv b (wadd IntKind.i64 x 1)) ∧ (Nat.le (Nat.succ (m b (wadd IntKind.i64 x 1))) (m b x))))))) ((Option.some ([[SL 21 rows, I q, I t]]) = Option.some ([[SL 21 rows, I q, I t]])) ∧ ((Inv b (wadd IntKind.i64 x 1)) ∧ (Nat.le (Nat.succ (m b (wadd IntKind.i64 x 1))) (m b x)))))))))) (Q [B true])))) : Ct Try.prog 45 {} [st3 rows q t] Q :=
  fn_of (f := 45) SgT SvT (fun _ => none) Try.f45 Try.func45 (by kernel_rfl) (by kernel_rfl) h

theorem srright_nf (rows : List (List SV)) (q t : Int) (Q : List SV → Prop) (h : ifB (bpick (bpick (bpick (bpick (igt (rlen rows) 12) true (ilt q 0)) true (igt q 4294967296)) true (ilt t 0)) true (igt t 1099511627776)) (Q [B false]) (∃ Inv : Bool → Int → Prop, ∃ m : Bool → Int → Nat, (Inv false 0) ∧ (∀ b : Bool, ∀ x : Int, (Inv b x) → ifB (ilt x (rlen rows)) ((((0 : Int) ≤ x) ∧ (x < (rlen rows))) ∧ (∃ s : ByteArray, ∃ x1 : Int, ∃ x2 : Int, ∃ x3 : Int, ∃ x4 : Int, ∃ l : List (List SV), ∃ x5 : Int, ∃ x6 : Int, ∃ x7 : Int, ∃ x8 : Int, ∃ x9 : Int, ∃ x10 : Int, ∃ x11 : Int, ∃ x12 : Int, ∃ x13 : Int, ∃ x14 : Int, ∃ x15 : Int, ∃ x16 : Int, ∃ x17 : Int, ∃ x18 : Int, ∃ x19 : Int, (rget rows x = [S s, I x1, I x2, I x3, I x4, SL 2 l, I x5, I x6, I x7, I x8, I x9, I x10, I x11, I x12, I x13, I x14, I x15, I x16, I x17, I x18, I x19]) ∧ (Cl Try.prog 104 sP ([SV.agg [S s, I x1, I x2, I x3, I x4, SL 2 l, I x5, I x6, I x7, I x8, I x9, I x10, I x11, I x12, I x13, I x14, I x15, I x16, I x17, I x18, I x19]]) (fun (rs : List SV) => ∃ b1 : Bool, (rs = [B b1]) ∧ (ifB (bnot b1) (Q [B false]) (ifB (igt x 0) ((((0 : Int) ≤ x) ∧ (x < (rlen rows))) ∧ (∃ s1 : ByteArray, ∃ x20 : Int, ∃ x21 : Int, ∃ x22 : Int, ∃ x23 : Int, ∃ l1 : List (List SV), ∃ x24 : Int, ∃ x25 : Int, ∃ x26 : Int, ∃ x27 : Int, ∃ x28 : Int, ∃ x29 : Int, ∃ x30 : Int, ∃ x31 : Int, ∃ x32 : Int, ∃ x33 : Int, ∃ x34 : Int, ∃ x35 : Int, ∃ x36 : Int, ∃ x37 : Int, ∃ x38 : Int, (rget rows x = [S s1, I x20, I x21, I x22, I x23, SL 2 l1, I x24, I x25, I x26, I x27, I x28, I x29, I x30, I x31, I x32, I x33, I x34, I x35, I x36, I x37, I x38]) ∧ ((((0 : Int) ≤ (wsub IntKind.i64 x 1)) ∧ ((wsub IntKind.i64 x 1) < (rlen rows))) ∧ (∃ s2 : ByteArray, ∃ x39 : Int, ∃ x40 : Int, ∃ x41 : Int, ∃ x42 : Int, ∃ l2 : List (List SV), ∃ x43 : Int, ∃ x44 : Int, ∃ x45 : Int, ∃ x46 : Int, ∃ x47 : Int, ∃ x48 : Int, ∃ x49 : Int, ∃ x50 : Int, ∃ x51 : Int, ∃ x52 : Int, ∃ x53 : Int, ∃ x54 : Int, ∃ x55 : Int, ∃ x56 : Int, ∃ x57 : Int, (rget rows (wsub IntKind.i64 x 1) = [S s2, I x39, I x40, I x41, I x42, SL 2 l2, I x43, I x44, I x45, I x46, I x47, I x48, I x49, I x50, I x51, I x52, I x53, I x54, I x55, I x56, I x57]) ∧ (ifB (sle s1 s2) (Q [B false]) ((Option.some ([[SL 21 rows, I q, I t]]) = Option.some ([[SL 21 rows, I q, I t]])) ∧ ((Inv b (wadd IntKind.i64 x 1)) ∧ (Nat.le (Nat.succ (m b (wadd IntKind.i64 x 1))) (m b x))))))))) ((Option.some ([[SL 21 rows, I q, I t]]) = Option.some ([[SL 21 rows, I q, I t]])) ∧ ((Inv b (wadd IntKind.i64 x 1)) ∧ (Nat.le (Nat.succ (m b (wadd IntKind.i64 x 1))) (m b x)))))))))) (Q [B true])))) : Ct Try.prog 46 {} [st3 rows q t] Q :=
  fn_of (f := 46) SgT SvT (fun _ => none) Try.f46 Try.func46 (by kernel_rfl) (by kernel_rfl) h

theorem sfind_nf (rows : List (List SV)) (q t : Int) (s : ByteArray) (Q : List SV → Prop) (h : Cl Try.prog 105 sP ([SL 21 rows, SV.clo 106 ([SV.ref 0 [S s]])]) (fun (rs : List SV) => ∃ x : Int, (rs = [I x]) ∧ (Q [I x]))) : Ct Try.prog 47 {} [st3 rows q t, S s] Q :=
  fn_of (f := 47) SgT SvT (fun _ => none) Try.f47 Try.func47 (by kernel_rfl) (by kernel_rfl) h

theorem sfind1_nf (nm : ByteArray) (ro mo wd sl : Int) (cl : List (List SV)) (h0 h1 h2 h3 h4 h5 h6 h7 h8 hs rm ha c0 c1 c2 : Int) (s : ByteArray) (Q : List SV → Prop) (h : Q [B (seq nm s)]) : Ct Try.prog 106 {} [cmp21 nm ro mo wd sl cl h0 h1 h2 h3 h4 h5 h6 h7 h8 hs rm ha c0 c1 c2, .ref 0 [S s]] Q :=
  fn_of (f := 106) SgT SvT (fun _ => none) Try.f106 Try.func106 (by kernel_rfl) (by kernel_rfl) h

theorem sindex_nf (rows : List (List SV)) (f : FuncId) (cs : List SV) (Q : List SV → Prop) (h : ∃ Inv : Int → Int → Prop, ∃ m : Int → Int → Nat, (Inv 0 0) ∧ (∀ x : Int, ∀ x1 : Int, (Inv x x1) → ifB (ilt x1 (rlen rows)) ((((0 : Int) ≤ x1) ∧ (x1 < (rlen rows))) ∧ (∃ s : ByteArray, ∃ x2 : Int, ∃ x3 : Int, ∃ x4 : Int, ∃ x5 : Int, ∃ l : List (List SV), ∃ x6 : Int, ∃ x7 : Int, ∃ x8 : Int, ∃ x9 : Int, ∃ x10 : Int, ∃ x11 : Int, ∃ x12 : Int, ∃ x13 : Int, ∃ x14 : Int, ∃ x15 : Int, ∃ x16 : Int, ∃ x17 : Int, ∃ x18 : Int, ∃ x19 : Int, ∃ x20 : Int, (rget rows x1 = [S s, I x2, I x3, I x4, I x5, SL 2 l, I x6, I x7, I x8, I x9, I x10, I x11, I x12, I x13, I x14, I x15, I x16, I x17, I x18, I x19, I x20]) ∧ (Cl Try.prog f sP ((SV.agg [S s, I x2, I x3, I x4, I x5, SL 2 l, I x6, I x7, I x8, I x9, I x10, I x11, I x12, I x13, I x14, I x15, I x16, I x17, I x18, I x19, I x20]) :: cs) (fun (rs : List SV) => ∃ b : Bool, (rs = [B b]) ∧ (ifB b (Q [I x1]) (((Option.some [] : Option (List (List SV))) = Option.some []) ∧ ((Inv x (wadd IntKind.i64 x1 1)) ∧ (Nat.le (Nat.succ (m x (wadd IntKind.i64 x1 1))) (m x x1))))))))) (Q [I ((-1 : Int))]))) : Ct Try.prog 105 {} [SL 21 rows, .clo f cs] Q :=
  fn_of (f := 105) SgT SvT (fun _ => none) Try.f105 Try.func105 (by kernel_rfl) (by kernel_rfl) h

theorem ssame_nf (rows : List (List SV)) (q t : Int) (rows2 : List (List SV)) (q2 t2 : Int) (Q : List SV → Prop) (h : ifB (bpick (ieq q q2) (ieq t t2) false) (Cl Try.prog 107 sP ([SL 21 rows, SL 21 rows2, SV.clo 56 []]) (fun (rs : List SV) => ∃ b : Bool, (rs = [B b]) ∧ (Q [B b]))) (Q [B false])) : Ct Try.prog 49 {} [st3 rows q t, st3 rows2 q2 t2] Q :=
  fn_of (f := 49) SgT SvT (fun _ => none) Try.f49 Try.func49 (by kernel_rfl) (by kernel_rfl) h

theorem srsame_nf (rows : List (List SV)) (q t : Int) (rows2 : List (List SV)) (q2 t2 : Int) (Q : List SV → Prop) (h : ifB (bpick (bpick (ine q q2) true (ine t t2)) true (ine (rlen rows) (rlen rows2))) (Q [B false]) (∃ Inv : Bool → Int → Prop, ∃ m : Bool → Int → Nat, (Inv false 0) ∧ (∀ b : Bool, ∀ x : Int, (Inv b x) → ifB (ilt x (rlen rows)) ((((0 : Int) ≤ x) ∧ (x < (rlen rows))) ∧ (∃ s : ByteArray, ∃ x1 : Int, ∃ x2 : Int, ∃ x3 : Int, ∃ x4 : Int, ∃ l : List (List SV), ∃ x5 : Int, ∃ x6 : Int, ∃ x7 : Int, ∃ x8 : Int, ∃ x9 : Int, ∃ x10 : Int, ∃ x11 : Int, ∃ x12 : Int, ∃ x13 : Int, ∃ x14 : Int, ∃ x15 : Int, ∃ x16 : Int, ∃ x17 : Int, ∃ x18 : Int, ∃ x19 : Int, (rget rows x = [S s, I x1, I x2, I x3, I x4, SL 2 l, I x5, I x6, I x7, I x8, I x9, I x10, I x11, I x12, I x13, I x14, I x15, I x16, I x17, I x18, I x19]) ∧ ((((0 : Int) ≤ x) ∧ (x < (rlen rows2))) ∧ (∃ s1 : ByteArray, ∃ x20 : Int, ∃ x21 : Int, ∃ x22 : Int, ∃ x23 : Int, ∃ l1 : List (List SV), ∃ x24 : Int, ∃ x25 : Int, ∃ x26 : Int, ∃ x27 : Int, ∃ x28 : Int, ∃ x29 : Int, ∃ x30 : Int, ∃ x31 : Int, ∃ x32 : Int, ∃ x33 : Int, ∃ x34 : Int, ∃ x35 : Int, ∃ x36 : Int, ∃ x37 : Int, ∃ x38 : Int, (rget rows2 x = [S s1, I x20, I x21, I x22, I x23, SL 2 l1, I x24, I x25, I x26, I x27, I x28, I x29, I x30, I x31, I x32, I x33, I x34, I x35, I x36, I x37, I x38]) ∧ (Cl Try.prog 108 sP ([SV.agg [S s, I x1, I x2, I x3, I x4, SL 2 l, I x5, I x6, I x7, I x8, I x9, I x10, I x11, I x12, I x13, I x14, I x15, I x16, I x17, I x18, I x19], SV.agg [S s1, I x20, I x21, I x22, I x23, SL 2 l1, I x24, I x25, I x26, I x27, I x28, I x29, I x30, I x31, I x32, I x33, I x34, I x35, I x36, I x37, I x38]]) (fun (rs : List SV) => ∃ b1 : Bool, (rs = [B b1]) ∧ (ifB (bnot b1) (Q [B false]) ((Option.some ([[SL 21 rows2, I q2, I t2], [SL 21 rows, I q, I t]]) = Option.some ([[SL 21 rows2, I q2, I t2], [SL 21 rows, I q, I t]])) ∧ ((Inv b (wadd IntKind.i64 x 1)) ∧ (Nat.le (Nat.succ (m b (wadd IntKind.i64 x 1))) (m b x))))))))))) (Q [B true])))) : Ct Try.prog 50 {} [st3 rows q t, st3 rows2 q2 t2] Q :=
  fn_of (f := 50) SgT SvT (fun _ => none) Try.f50 Try.func50 (by kernel_rfl) (by kernel_rfl) h

theorem sequal_nf (rows rows2 : List (List SV)) (f : FuncId) (cs : List SV) (Q : List SV → Prop) (h : ifB (ine (rlen rows) (rlen rows2)) (Q [B false]) (∃ Inv : Bool → Int → Prop, ∃ m : Bool → Int → Nat, (Inv false 0) ∧ (∀ b : Bool, ∀ x : Int, (Inv b x) → ifB (ilt x (rlen rows)) ((((0 : Int) ≤ x) ∧ (x < (rlen rows))) ∧ (∃ s : ByteArray, ∃ x1 : Int, ∃ x2 : Int, ∃ x3 : Int, ∃ x4 : Int, ∃ l : List (List SV), ∃ x5 : Int, ∃ x6 : Int, ∃ x7 : Int, ∃ x8 : Int, ∃ x9 : Int, ∃ x10 : Int, ∃ x11 : Int, ∃ x12 : Int, ∃ x13 : Int, ∃ x14 : Int, ∃ x15 : Int, ∃ x16 : Int, ∃ x17 : Int, ∃ x18 : Int, ∃ x19 : Int, (rget rows x = [S s, I x1, I x2, I x3, I x4, SL 2 l, I x5, I x6, I x7, I x8, I x9, I x10, I x11, I x12, I x13, I x14, I x15, I x16, I x17, I x18, I x19]) ∧ ((((0 : Int) ≤ x) ∧ (x < (rlen rows2))) ∧ (∃ s1 : ByteArray, ∃ x20 : Int, ∃ x21 : Int, ∃ x22 : Int, ∃ x23 : Int, ∃ l1 : List (List SV), ∃ x24 : Int, ∃ x25 : Int, ∃ x26 : Int, ∃ x27 : Int, ∃ x28 : Int, ∃ x29 : Int, ∃ x30 : Int, ∃ x31 : Int, ∃ x32 : Int, ∃ x33 : Int, ∃ x34 : Int, ∃ x35 : Int, ∃ x36 : Int, ∃ x37 : Int, ∃ x38 : Int, (rget rows2 x = [S s1, I x20, I x21, I x22, I x23, SL 2 l1, I x24, I x25, I x26, I x27, I x28, I x29, I x30, I x31, I x32, I x33, I x34, I x35, I x36, I x37, I x38]) ∧ (Cl Try.prog f sP ((SV.agg [S s, I x1, I x2, I x3, I x4, SL 2 l, I x5, I x6, I x7, I x8, I x9, I x10, I x11, I x12, I x13, I x14, I x15, I x16, I x17, I x18, I x19]) :: ((SV.agg [S s1, I x20, I x21, I x22, I x23, SL 2 l1, I x24, I x25, I x26, I x27, I x28, I x29, I x30, I x31, I x32, I x33, I x34, I x35, I x36, I x37, I x38]) :: cs)) (fun (rs : List SV) => ∃ b1 : Bool, (rs = [B b1]) ∧ (ifB (bnot b1) (Q [B false]) (((Option.some [] : Option (List (List SV))) = Option.some []) ∧ ((Inv b (wadd IntKind.i64 x 1)) ∧ (Nat.le (Nat.succ (m b (wadd IntKind.i64 x 1))) (m b x))))))))))) (Q [B true])))) : Ct Try.prog 107 {} [SL 21 rows, SL 21 rows2, .clo f cs] Q :=
  fn_of (f := 107) SgT SvT (fun _ => none) Try.f107 Try.func107 (by kernel_rfl) (by kernel_rfl) h

theorem sclone_nf (rows : List (List SV)) (Q : List SV → Prop) (h : ∀ b : Bool, ((b = true) → rlen rows = 0) → ifB b (Q ([SL 21 []])) (((lsum (rlen []) (rlen rows)) ≤ ((2147483648 : Int))) ∧ (Q ([SL 21 (rapp [] rows)])))) : Ct Try.prog 109 ⟨[], [.own]⟩ [SL 21 rows] Q :=
  fn_of (f := 109) SgT SvT (fun _ => none) Try.f109 Try.func109 (by kernel_rfl) (by kernel_rfl) h

theorem sbin_nf (rows : List (List SV)) (s : ByteArray) (f : FuncId) (cs : List SV) (Q : List SV → Prop) (h : ∃ Inv : Int → Int → Prop, ∃ m : Int → Int → Nat, (Inv 0 (rlen rows)) ∧ (∀ x : Int, ∀ x1 : Int, (Inv x x1) → ifB (ilt x x1) (((0 : Int) ≤ 1) ∧ ((((0 : Int) ≤ (wcv IntKind.i64 (wshr IntKind.u64 (wcv IntKind.u64 (wadd IntKind.i64 x x1)) 1))) ∧ ((wcv IntKind.i64 (wshr IntKind.u64 (wcv IntKind.u64 (wadd IntKind.i64 x x1)) 1)) < (rlen rows))) ∧ (∃ s1 : ByteArray, ∃ x2 : Int, ∃ x3 : Int, ∃ x4 : Int, ∃ x5 : Int, ∃ l : List (List SV), ∃ x6 : Int, ∃ x7 : Int, ∃ x8 : Int, ∃ x9 : Int, ∃ x10 : Int, ∃ x11 : Int, ∃ x12 : Int, ∃ x13 : Int, ∃ x14 : Int, ∃ x15 : Int, ∃ x16 : Int, ∃ x17 : Int, ∃ x18 : Int, ∃ x19 : Int, ∃ x20 : Int, (rget rows (wcv IntKind.i64 (wshr IntKind.u64 (wcv IntKind.u64 (wadd IntKind.i64 x x1)) 1)) = [S s1, I x2, I x3, I x4, I x5, SL 2 l, I x6, I x7, I x8, I x9, I x10, I x11, I x12, I x13, I x14, I x15, I x16, I x17, I x18, I x19, I x20]) ∧ (Cl Try.prog f sP ((SV.agg [S s1, I x2, I x3, I x4, I x5, SL 2 l, I x6, I x7, I x8, I x9, I x10, I x11, I x12, I x13, I x14, I x15, I x16, I x17, I x18, I x19, I x20]) :: ((S s) :: cs)) (fun (rs : List SV) => ∃ x21 : Int, (rs = [I x21]) ∧ (ifB (ilt x21 0) (((Option.some [] : Option (List (List SV))) = Option.some []) ∧ ((Inv (wadd IntKind.i64 (wcv IntKind.i64 (wshr IntKind.u64 (wcv IntKind.u64 (wadd IntKind.i64 x x1)) 1)) 1) x1) ∧ (Nat.le (Nat.succ (m (wadd IntKind.i64 (wcv IntKind.i64 (wshr IntKind.u64 (wcv IntKind.u64 (wadd IntKind.i64 x x1)) 1)) 1) x1)) (m x x1)))) (((Option.some [] : Option (List (List SV))) = Option.some []) ∧ ((Inv x (wcv IntKind.i64 (wshr IntKind.u64 (wcv IntKind.u64 (wadd IntKind.i64 x x1)) 1))) ∧ (Nat.le (Nat.succ (m x (wcv IntKind.i64 (wshr IntKind.u64 (wcv IntKind.u64 (wadd IntKind.i64 x x1)) 1)))) (m x x1)))))))))) (ifB (ilt x (rlen rows)) ((((0 : Int) ≤ x) ∧ (x < (rlen rows))) ∧ (∃ s1 : ByteArray, ∃ x2 : Int, ∃ x3 : Int, ∃ x4 : Int, ∃ x5 : Int, ∃ l : List (List SV), ∃ x6 : Int, ∃ x7 : Int, ∃ x8 : Int, ∃ x9 : Int, ∃ x10 : Int, ∃ x11 : Int, ∃ x12 : Int, ∃ x13 : Int, ∃ x14 : Int, ∃ x15 : Int, ∃ x16 : Int, ∃ x17 : Int, ∃ x18 : Int, ∃ x19 : Int, ∃ x20 : Int, (rget rows x = [S s1, I x2, I x3, I x4, I x5, SL 2 l, I x6, I x7, I x8, I x9, I x10, I x11, I x12, I x13, I x14, I x15, I x16, I x17, I x18, I x19, I x20]) ∧ (Cl Try.prog f sP ((SV.agg [S s1, I x2, I x3, I x4, I x5, SL 2 l, I x6, I x7, I x8, I x9, I x10, I x11, I x12, I x13, I x14, I x15, I x16, I x17, I x18, I x19, I x20]) :: ((S s) :: cs)) (fun (rs : List SV) => ∃ x21 : Int, (rs = [I x21]) ∧ (Q [I x, B (ieq x21 0)]))))) (Q [I x, B false])))) : Ct Try.prog 110 {} [SL 21 rows, S s, .clo f cs] Q :=
  fn_of (f := 110) SgT SvT (fun _ => none) Try.f110 Try.func110 (by kernel_rfl) (by kernel_rfl) h

theorem scompare_nf (s t : ByteArray) (Q : List SV → Prop) (h : Cl Try.prog 159 sP [S s] (fun (rs : List SV) => ∃ b : Bool, (rs = [B b]) ∧ (Cl Try.prog 159 sP [S t] (fun (rs1 : List SV) => ∃ b1 : Bool, (rs1 = [B b1]) ∧ (ifB b (ifB b1 (Q [I 0]) (Q [I ((-1 : Int))])) (ifB b1 (Q [I 1]) (ifB (slt s t) (Q [I ((-1 : Int))]) (ifB (sgt s t) (Q [I 1]) (Q [I 0]))))))))) : Ct Try.prog 112 {} [S s, S t] Q :=
  fn_of (f := 112) SgT SvT (fun _ => none) Try.f112 Try.func112 (by kernel_rfl) (by kernel_rfl) h

theorem snan_nf (s : ByteArray) (Q : List SV → Prop) (h : Q [B (sne s s)]) : Ct Try.prog 159 {} [S s] Q :=
  fn_of (f := 159) SgT SvT (fun _ => none) Try.f159 Try.func159 (by kernel_rfl) (by kernel_rfl) h

theorem sapp1_nf (nm : ByteArray) (ro mo wd sl : Int) (cl : List (List SV)) (h0 h1 h2 h3 h4 h5 h6 h7 h8 hs rm ha c0 c1 c2 : Int) (s : ByteArray) (Q : List SV → Prop) (h : Cl Try.prog 112 sP [S nm, S s] (fun (rs : List SV) => ∃ x : Int, (rs = [I x]) ∧ (Q [I x]))) : Ct Try.prog 111 {} [cmp21 nm ro mo wd sl cl h0 h1 h2 h3 h4 h5 h6 h7 h8 hs rm ha c0 c1 c2, S s] Q :=
  fn_of (f := 111) SgT SvT (fun _ => none) Try.f111 Try.func111 (by kernel_rfl) (by kernel_rfl) h

theorem smay_nf (rows : List (List SV)) (q t : Int) (s a k : Int) (c : ByteArray) (x y z : Int) (Q : List SV → Prop) (h : Cl Try.prog 45 sP ([SV.agg [SL 21 rows, I q, I t]]) (fun (rs : List SV) => ∃ b : Bool, (rs = [B b]) ∧ (ifB (bnot b) (Q [I 1]) (Cl Try.prog 117 sP ([SV.agg [I s, I a, I k, S c, I x, I y, I z]]) (fun (rs1 : List SV) => ∃ x1 : Int, (rs1 = [I x1]) ∧ (ifB (ine x1 0) (Q [I x1]) (Cl Try.prog 47 sP ([SV.agg [SL 21 rows, I q, I t], S c]) (fun (rs2 : List SV) => ∃ x2 : Int, (rs2 = [I x2]) ∧ (ifB (ine s (wadd IntKind.i64 q 1)) (Q [I 1]) (ifB (ilt a t) (Q [I 5]) (ifB (bpick (ieq k 1) (ine x2 ((-1 : Int))) false) (Q [I 7]) (ifB (bpick (ieq k 1) (ieq (rlen rows) 12) false) (Q [I 9]) (ifB (ieq k 1) (Q [I 0]) (ifB (ieq x2 ((-1 : Int))) (Q [I 6]) ((((0 : Int) ≤ x2) ∧ (x2 < (rlen rows))) ∧ (∃ s1 : ByteArray, ∃ x3 : Int, ∃ x4 : Int, ∃ x5 : Int, ∃ x6 : Int, ∃ l : List (List SV), ∃ x7 : Int, ∃ x8 : Int, ∃ x9 : Int, ∃ x10 : Int, ∃ x11 : Int, ∃ x12 : Int, ∃ x13 : Int, ∃ x14 : Int, ∃ x15 : Int, ∃ x16 : Int, ∃ x17 : Int, ∃ x18 : Int, ∃ x19 : Int, ∃ x20 : Int, ∃ x21 : Int, (rget rows x2 = [S s1, I x3, I x4, I x5, I x6, SL 2 l, I x7, I x8, I x9, I x10, I x11, I x12, I x13, I x14, I x15, I x16, I x17, I x18, I x19, I x20, I x21]) ∧ (Cl Try.prog 118 sP ([SV.agg [S s1, I x3, I x4, I x5, I x6, SL 2 l, I x7, I x8, I x9, I x10, I x11, I x12, I x13, I x14, I x15, I x16, I x17, I x18, I x19, I x20, I x21], SV.agg [I s, I a, I k, S c, I x, I y, I z]]) (fun (rs3 : List SV) => ∃ x22 : Int, (rs3 = [I x22]) ∧ (Q [I x22]))))))))))))))))))) : Ct Try.prog 53 {} [st3 rows q t, ev7 s a k c x y z] Q :=
  fn_of (f := 53) SgT SvT (fun _ => none) Try.f53 Try.func53 (by kernel_rfl) (by kernel_rfl) h

theorem sapply_nf (rows : List (List SV)) (q t : Int) (s a k : Int) (c : ByteArray) (x y z : Int) (Q : List SV → Prop) (h : Cl Try.prog 53 sP ([SV.agg [SL 21 rows, I q, I t], SV.agg [I s, I a, I k, S c, I x, I y, I z]]) (fun (rs : List SV) => ∃ x1 : Int, (rs = [I x1]) ∧ (ifB (ine x1 0) (Q ([SV.agg [SL 21 rows, I q, I t], I x1])) (Cl Try.prog 109 sO [SL 21 rows] (fun (rs1 : List SV) => ∃ l : List (List SV), (rs1 = [SL 21 l]) ∧ (ifB (ieq k 1) (Cl Try.prog 57 sP [S c, I x, I a] (fun (rs2 : List SV) => ∃ s1 : ByteArray, ∃ x2 : Int, ∃ x3 : Int, ∃ x4 : Int, ∃ x5 : Int, ∃ l1 : List (List SV), ∃ x6 : Int, ∃ x7 : Int, ∃ x8 : Int, ∃ x9 : Int, ∃ x10 : Int, ∃ x11 : Int, ∃ x12 : Int, ∃ x13 : Int, ∃ x14 : Int, ∃ x15 : Int, ∃ x16 : Int, ∃ x17 : Int, ∃ x18 : Int, ∃ x19 : Int, ∃ x20 : Int, ∃ x21 : Int, (rs2 = [SV.agg [S s1, I x2, I x3, I x4, I x5, SL 2 l1, I x6, I x7, I x8, I x9, I x10, I x11, I x12, I x13, I x14, I x15, I x16, I x17, I x18, I x19, I x20], I x21]) ∧ (ifB (ine x21 0) (Q ([SV.agg [SL 21 rows, I q, I t], I x21])) (Cl Try.prog 110 sP ([SL 21 l, S c, SV.clo 111 []]) (fun (rs3 : List SV) => ∃ x22 : Int, ∃ b : Bool, (rs3 = [I x22, B b]) ∧ (Cl Try.prog 113 (Sig.mk [Md.own] [Md.own]) ([SL 21 l, I x22, SL 21 ([[S s1, I x2, I x3, I x4, I x5, SV.slice 2 l1 0, I x6, I x7, I x8, I x9, I x10, I x11, I x12, I x13, I x14, I x15, I x16, I x17, I x18, I x19, I x20]])]) (fun (rs4 : List SV) => ∃ l2 : List (List SV), (rs4 = [SL 21 l2]) ∧ (Q ([SV.agg [SL 21 l2, I s, I a], I 0]))))))))) (Cl Try.prog 47 sP ([SV.agg [SL 21 rows, I q, I t], S c]) (fun (rs2 : List SV) => ∃ x2 : Int, (rs2 = [I x2]) ∧ ((((0 : Int) ≤ x2) ∧ (x2 < (rlen l))) ∧ ((((0 : Int) ≤ x2) ∧ (x2 < (rlen l))) ∧ (∃ s1 : ByteArray, ∃ x3 : Int, ∃ x4 : Int, ∃ x5 : Int, ∃ x6 : Int, ∃ l1 : List (List SV), ∃ x7 : Int, ∃ x8 : Int, ∃ x9 : Int, ∃ x10 : Int, ∃ x11 : Int, ∃ x12 : Int, ∃ x13 : Int, ∃ x14 : Int, ∃ x15 : Int, ∃ x16 : Int, ∃ x17 : Int, ∃ x18 : Int, ∃ x19 : Int, ∃ x20 : Int, ∃ x21 : Int, (rget l x2 = [S s1, I x3, I x4, I x5, I x6, SL 2 l1, I x7, I x8, I x9, I x10, I x11, I x12, I x13, I x14, I x15, I x16, I x17, I x18, I x19, I x20, I x21]) ∧ ((Cl Try.prog 58 sP ([SV.agg [S s1, I x3, I x4, I x5, I x6, SL 2 l1, I x7, I x8, I x9, I x10, I x11, I x12, I x13, I x14, I x15, I x16, I x17, I x18, I x19, I x20, I x21], SV.agg [I s, I a, I k, S c, I x, I y, I z]]) (fun (rs3 : List SV) => ∃ s2 : ByteArray, ∃ x22 : Int, ∃ x23 : Int, ∃ x24 : Int, ∃ x25 : Int, ∃ l2 : List (List SV), ∃ x26 : Int, ∃ x27 : Int, ∃ x28 : Int, ∃ x29 : Int, ∃ x30 : Int, ∃ x31 : Int, ∃ x32 : Int, ∃ x33 : Int, ∃ x34 : Int, ∃ x35 : Int, ∃ x36 : Int, ∃ x37 : Int, ∃ x38 : Int, ∃ x39 : Int, ∃ x40 : Int, ∃ x41 : Int, (rs3 = [SV.agg [S s2, I x22, I x23, I x24, I x25, SL 2 l2, I x26, I x27, I x28, I x29, I x30, I x31, I x32, I x33, I x34, I x35, I x36, I x37, I x38, I x39, I x40], I x41]) ∧ (ifB (ine x41 0) (Q ([SV.agg [SL 21 rows, I q, I t], I x41])) ((((0 : Int) ≤ x2) ∧ (x2 < (rlen l))) ∧ ((((0 : Int) ≤ x2) ∧ (x2 < (rlen l))) ∧ (Q ([SV.agg ([SL 21 (rset l x2 [S s2, I x22, I x23, I x24, I x25, SV.slice 2 l2 0, I x26, I x27, I x28, I x29, I x30, I x31, I x32, I x33, I x34, I x35, I x36, I x37, I x38, I x39, I x40]), I s, I a]), I 0]))))))) ∧ (Cl Try.prog 58 sP ([SV.agg [S s1, I x3, I x4, I x5, I x6, SL 2 l1, I x7, I x8, I x9, I x10, I x11, I x12, I x13, I x14, I x15, I x16, I x17, I x18, I x19, I x20, I x21], SV.agg [I s, I a, I k, S c, I x, I y, I z]]) (fun (rs3 : List SV) => ∃ s2 : ByteArray, ∃ x22 : Int, ∃ x23 : Int, ∃ x24 : Int, ∃ x25 : Int, ∃ l2 : List (List SV), ∃ x26 : Int, ∃ x27 : Int, ∃ x28 : Int, ∃ x29 : Int, ∃ x30 : Int, ∃ x31 : Int, ∃ x32 : Int, ∃ x33 : Int, ∃ x34 : Int, ∃ x35 : Int, ∃ x36 : Int, ∃ x37 : Int, ∃ x38 : Int, ∃ x39 : Int, ∃ x40 : Int, ∃ x41 : Int, (rs3 = [SV.agg [S s2, I x22, I x23, I x24, I x25, SL 2 l2, I x26, I x27, I x28, I x29, I x30, I x31, I x32, I x33, I x34, I x35, I x36, I x37, I x38, I x39, I x40], I x41]) ∧ (ifB (ine x41 0) (Q ([SV.agg [SL 21 rows, I q, I t], I x41])) ((((0 : Int) ≤ x2) ∧ (x2 < (rlen l))) ∧ ((((0 : Int) ≤ x2) ∧ (x2 < (rlen l))) ∧ (Q ([SV.agg ([SL 21 (rset l x2 [S s2, I x22, I x23, I x24, I x25, SV.slice 2 l2 0, I x26, I x27, I x28, I x29, I x30, I x31, I x32, I x33, I x34, I x35, I x36, I x37, I x38, I x39, I x40]), I s, I a]), I 0]))))))))))))))))))) : Ct Try.prog 51 {} [st3 rows q t, ev7 s a k c x y z] Q :=
  fn_of (f := 51) SgT SvT (fun _ => none) Try.f51 Try.func51 (by kernel_rfl) (by kernel_rfl) h

end Go.Proofs.Ytohmeljljamigaa.St

namespace Go.Proofs.Ytohmeljljamigaa.St
open Go Go.Px Go.Proofs Go.Proofs.Ytohmeljljamigaa.Cmp
set_option maxRecDepth 100000
set_option linter.unusedVariables false

theorem sfold_nf (rows : List (List SV)) (q t : Int) (l : List (List SV)) (Q : List SV → Prop) (h : ∃ Inv : Int → (List (List SV)) → Int → Int → Prop, ∃ m : Int → (List (List SV)) → Int → Int → Nat, (Inv 0 rows q t) ∧ (∀ x : Int, ∀ l1 : List (List SV), ∀ x1 : Int, ∀ x2 : Int, (Inv x l1 x1 x2) → ifB (ilt x (rlen l)) ((((0 : Int) ≤ x) ∧ (x < (rlen l))) ∧ (∃ x3 : Int, ∃ x4 : Int, ∃ x5 : Int, ∃ s : ByteArray, ∃ x6 : Int, ∃ x7 : Int, ∃ x8 : Int, (rget l x = [I x3, I x4, I x5, S s, I x6, I x7, I x8]) ∧ (Cl Try.prog 51 sP ([SV.agg [SL 21 l1, I x1, I x2], SV.agg [I x3, I x4, I x5, S s, I x6, I x7, I x8]]) (fun (rs : List SV) => ∃ l2 : List (List SV), ∃ x9 : Int, ∃ x10 : Int, ∃ x11 : Int, (rs = [SV.agg [SL 21 l2, I x9, I x10], I x11]) ∧ (ifB (ine x11 0) (Q ([SV.agg [SL 21 l1, I x1, I x2], I x, I x11])) ((Option.some ([[SV.slice 21 [] 1, I ((0 : Int)), I ((0 : Int))]]) = Option.some ([[SV.slice 21 [] 1, I ((0 : Int)), I ((0 : Int))]])) ∧ ((Inv (wadd IntKind.i64 x 1) l2 x9 x10) ∧ (Nat.le (Nat.succ (m (wadd IntKind.i64 x 1) l2 x9 x10)) (m x l1 x1 x2))))))))) (Q ([SV.agg [SL 21 l1, I x1, I x2], I (rlen l), I 0])))) : Ct Try.prog 54 {} [st3 rows q t, SL 7 l] Q :=
  fn_of (f := 54) SgT SvT (fun k => bif Nat.beq k 14 then some { slots := [(13,false,[.int .i64])], boxes := [(256,[.sl 21,.int .i64,.int .i64])], fixed := [512] } else none) Try.f54 Try.func54 (by kernel_rfl) (by kernel_rfl) h

end Go.Proofs.Ytohmeljljamigaa.St

namespace Go.Proofs.Ytohmeljljamigaa.St
open Go Go.Px Go.Proofs Go.Proofs.Ytohmeljljamigaa.Cmp
set_option maxRecDepth 100000
set_option linter.unusedVariables false

abbrev _root_.Go.Proofs.Ytohmeljljamigaa.Cmp.CoD.row (c : CoD) : List SV := [S c.nm, I c.ro, I c.mo, I c.wd, I c.sl, SL 2 (cR c.cl), I c.h0, I c.h1, I c.h2, I c.h3, I c.h4, I c.h5, I c.h6, I c.h7, I c.h8, I c.hs, I c.rm, I c.ha, I c.c0, I c.c1, I c.c2]
abbrev coR (l : List CoD) : List (List SV) := l.map CoD.row
abbrev _root_.Go.Proofs.Ytohmeljljamigaa.Cmp.EvD.row (e : EvD) : List SV := [I e.s, I e.a, I e.k, S e.c, I e.x, I e.y, I e.z]
abbrev eR (l : List EvD) : List (List SV) := l.map EvD.row
deriving instance DecidableEq for CoD
structure StD where
  cs : List CoD
  q : Int
  t : Int
deriving DecidableEq
abbrev StD.sv (d : StD) : SV := .agg [SL 21 (coR d.cs), I d.q, I d.t]

theorem same_iff {c d : CoD} : sameP c d ↔ c = d := by
  constructor
  · intro h
    cases c; cases d
    simp only [sameP] at h
    simp [h]
  · rintro rfl; exact sameP_refl c

def StD.P (d : StD) : Prop := (d.cs.length ≤ 12 ∧ 0 ≤ d.q ∧ d.q ≤ 4294967296 ∧ 0 ≤ d.t ∧ d.t ≤ 1099511627776) ∧ (∀ c ∈ d.cs, c.P) ∧ srt CoD.nm d.cs
instance (d : StD) : Decidable d.P := inferInstanceAs (Decidable (_ ∧ _))
def StD.short (d : StD) : Prop := (∀ c ∈ d.cs, c.nm.size ≤ 100 ∧ c.cl.length ≤ 40) ∧ d.cs.length ≤ 20
instance (d : StD) : Decidable d.short := inferInstanceAs (Decidable (_ ∧ _))

/-- Whether an event may be applied. -/
def mayS (d : StD) (e : EvD) : Int :=
  if ¬ d.P then 1 else if chkE e ≠ 0 then chkE e else if e.s ≠ d.q + 1 then 1 else if e.a < d.t then 5
  else if e.k = 1 then (if fAt CoD.nm d.cs e.c ≠ -1 then 7 else if d.cs.length = 12 then 9 else 0)
  else if fAt CoD.nm d.cs e.c = -1 then 6 else mayI (d.cs.getD (fAt CoD.nm d.cs e.c).toNat co0) e
def nxtS (d : StD) (e : EvD) : CoD := if e.k = 1 then (newC e.c e.x e.a).1 else tellC (d.cs.getD (fAt CoD.nm d.cs e.c).toNat co0) e
def appS (d : StD) (e : EvD) : StD × Int := if mayS d e ≠ 0 then (d, mayS d e) else (⟨withB CoD.nm d.cs (nxtS d e), e.s, e.a⟩, 0)
def foldS (d : StD) : List EvD → StD × Nat × Int
  | [] => (d, 0, 0)
  | e :: l => if (appS d e).2 ≠ 0 then (d, 0, (appS d e).2) else ((foldS (appS d e).1 l).1, (foldS (appS d e).1 l).2.1 + 1, (foldS (appS d e).1 l).2.2)

theorem adj_srtC {l : List CoD} (h : ∀ i : Nat, ∀ hi : i < l.length, 0 < i → nlt (l[i - 1]'(by omega)).nm l[i].nm) : srt CoD.nm l :=
  srt_adj fun i hi => h (i + 1) hi (by omega)

end Go.Proofs.Ytohmeljljamigaa.St

namespace Go.Proofs.Ytohmeljljamigaa.St
open Go Go.Px Go.Proofs Go.Proofs.Ytohmeljljamigaa.Cmp
set_option maxRecDepth 100000
set_option linter.unusedVariables false

theorem sshort_fn (d : StD) (hl : d.cs.length ≤ 9223372036854775807) : Ct Try.prog 43 {} [d.sv] (fun r => r = [B (decide d.short)]) := by
  refine sshort_nf _ _ _ _ ⟨fun _ x => ∃ i : Nat, x = i ∧ i ≤ d.cs.length ∧ ∀ j : Nat, ∀ hj : j < d.cs.length, j < i → d.cs[j].nm.size ≤ 100 ∧ d.cs[j].cl.length ≤ 40, fun _ x => d.cs.length - x.toNat, ⟨0, rfl, by omega, fun j _ hj => by omega⟩, ?_⟩
  rintro b _ ⟨i, rfl, hi, hall⟩
  refine ifB_intro (fun h => ?_) (fun h => ?_)
  · have h : i < d.cs.length := by simpa using h
    rw [waddN _ (by omega)]
    refine ⟨⟨by omega, by simpa using h⟩, _, _, _, _, _, _, _, _, _, _, _, _, _, _, _, _, _, _, _, _, _, rget_map _ _ _ h, Cl.of (qshort_fn d.cs[i]) ⟨_, rfl, ifB_intro (fun z => ?_) (fun z => ⟨rfl, ⟨i + 1, rfl, by omega, fun j hj hjk => ?_⟩, stepL (by simp; omega)⟩)⟩⟩
    · have : ¬ d.short := fun p => by
        have := p.1 _ (List.getElem_mem h)
        rw [decide_eq_true this] at z; cases z
      simp [this]
    · by_cases e : j = i
      · subst e; simpa using z
      · exact hall j hj (by omega)
  · have h : ¬ i < d.cs.length := by simpa using h
    have : d.short ↔ d.cs.length ≤ 20 := ⟨fun p => p.2, fun p => ⟨fun c hc => by
      obtain ⟨j, hj, rfl⟩ := List.mem_iff_getElem.1 hc
      exact hall j hj (by omega), p⟩⟩
    simp [this]
    omega

theorem snames_fn (l : List EvD) (hl : l.length ≤ 9223372036854775807) : Ct Try.prog 44 {} [SL 7 (eR l)] (fun r => r = [B (decide (∀ e ∈ l, e.c.size ≤ 100))]) := by
  refine snames_nf _ _ ⟨fun _ x => ∃ i : Nat, x = i ∧ i ≤ l.length ∧ ∀ j : Nat, ∀ hj : j < l.length, j < i → l[j].c.size ≤ 100, fun _ x => l.length - x.toNat, ⟨0, rfl, by omega, fun j _ hj => by omega⟩, ?_⟩
  rintro b _ ⟨i, rfl, hi, hall⟩
  refine ifB_intro (fun h => ?_) (fun h => ?_)
  · have h : i < l.length := by simpa using h
    rw [waddN _ (by omega)]
    refine ⟨⟨by omega, by simpa using h⟩, _, _, _, _, _, _, _, rget_map _ _ _ h, ifB_intro (fun z => ?_) (fun z => ⟨rfl, ⟨i + 1, rfl, by omega, fun j hj hjk => ?_⟩, stepL (by simp; omega)⟩)⟩
    · have z : 100 < l[i].c.size := by simp at z; omega
      have : ¬ ∀ e ∈ l, e.c.size ≤ 100 := fun q => by have := q _ (List.getElem_mem h); omega
      simp [this]
    · by_cases e : j = i
      · subst e; simp at z; omega
      · exact hall j hj (by omega)
  · have h : ¬ i < l.length := by simpa using h
    have : ∀ e ∈ l, e.c.size ≤ 100 := fun c hc => by
      obtain ⟨j, hj, rfl⟩ := List.mem_iff_getElem.1 hc
      exact hall j hj (by omega)
    rw [decide_eq_true this]

theorem sright_fn (d : StD) : Ct Try.prog 45 {} [d.sv] (fun r => r = [B (decide d.P)]) := by
  have no : ¬ d.P → [B false] = [B (decide d.P)] := fun h => by simp [h]
  refine sright_nf _ _ _ _ (ifB_intro (fun h1 => no (fun p => ?_)) (fun h1 => ?_))
  · have := p.1; simp at h1; omega
  · simp at h1
    have hl : d.cs.length ≤ 12 := by omega
    refine ⟨fun _ y => ∃ i : Nat, y = i ∧ i ≤ d.cs.length ∧ ∀ j : Nat, ∀ hj : j < d.cs.length, j < i → d.cs[j].P ∧ (0 < j → nlt (d.cs[j - 1]'(by omega)).nm d.cs[j].nm), fun _ y => d.cs.length - y.toNat, ⟨0, rfl, by omega, fun j _ hj => by omega⟩, ?_⟩
    rintro b _ ⟨i, rfl, hi, hall⟩
    refine ifB_intro (fun h2 => ?_) (fun h2 => ?_)
    · have h2 : i < d.cs.length := by simpa using h2
      have st : Nat.le (Nat.succ (d.cs.length - ((i + 1 : Nat) : Int).toNat)) (d.cs.length - ((i : Nat) : Int).toNat) := stepL (by simp; omega)
      have nxt : d.cs[i].P → (0 < i → nlt (d.cs[i - 1]'(by omega)).nm d.cs[i].nm) → ∃ k : Nat, ((i + 1 : Nat) : Int) = k ∧ k ≤ d.cs.length ∧ ∀ j : Nat, ∀ hj : j < d.cs.length, j < k → d.cs[j].P ∧ (0 < j → nlt (d.cs[j - 1]'(by omega)).nm d.cs[j].nm) := fun a b =>
        ⟨i + 1, rfl, by omega, fun j hj hjk => by
          by_cases e : j = i
          · subst e; exact ⟨a, b⟩
          · exact hall j hj (by omega)⟩
      rw [waddN _ (by omega)]
      refine ⟨⟨by omega, by simpa using h2⟩, _, _, _, _, _, _, _, _, _, _, _, _, _, _, _, _, _, _, _, _, _, rget_map _ _ _ h2, Cl.of (pright_fn d.cs[i]) ⟨_, rfl, ifB_intro (fun h3 => no (fun p => ?_)) (fun h3 => ?_)⟩⟩
      · rw [decide_eq_true (p.2.1 _ (List.getElem_mem h2))] at h3; cases h3
      · have h3 : d.cs[i].P := by simpa using h3
        refine ifB_intro (fun h4 => ?_) (fun h4 => ?_)
        · have h4 : 0 < i := by simpa using h4
          have w : wsub .i64 (i : Int) 1 = ((i - 1 : Nat) : Int) := by rw [wsub_i64 (by omega) (by omega)]; omega
          rw [w]
          have hi1 : i - 1 < d.cs.length := by omega
          refine ⟨⟨by omega, by simp; omega⟩, _, _, _, _, _, _, _, _, _, _, _, _, _, _, _, _, _, _, _, _, _, rget_map _ _ _ hi1, ?_⟩
          rw [sge_d]
          refine ifB_intro (fun h5 => no (fun p => ?_)) (fun h5 => ⟨rfl, nxt h3 (fun _ => ?_), st⟩)
          · simp at h5
            exact h5 (srt_get p.2.2 (by omega) h2)
          · simp at h5; exact h5
        · simp at h4
          exact ⟨rfl, nxt h3 (fun _ => by omega), st⟩
    · have h2 : ¬ i < d.cs.length := by simpa using h2
      have hs : srt CoD.nm d.cs := adj_srtC fun j hj => (hall j hj (by omega)).2
      have hn : ∀ f ∈ d.cs, f.P := fun f hf => by
        obtain ⟨j, hj, rfl⟩ := List.mem_iff_getElem.1 hf
        exact (hall j hj (by omega)).1
      rw [decide_eq_true (show d.P from ⟨⟨hl, by omega, by omega, by omega, by omega⟩, hn, hs⟩)]

theorem srright_fn (d : StD) : Ct Try.prog 46 {} [d.sv] (fun r => r = [B (decide d.P)]) := by
  have no : ¬ d.P → [B false] = [B (decide d.P)] := fun h => by simp [h]
  refine srright_nf _ _ _ _ (ifB_intro (fun h1 => no (fun p => ?_)) (fun h1 => ?_))
  · have := p.1; simp at h1; omega
  · simp at h1
    have hl : d.cs.length ≤ 12 := by omega
    refine ⟨fun _ y => ∃ i : Nat, y = i ∧ i ≤ d.cs.length ∧ ∀ j : Nat, ∀ hj : j < d.cs.length, j < i → d.cs[j].P ∧ (0 < j → nlt (d.cs[j - 1]'(by omega)).nm d.cs[j].nm), fun _ y => d.cs.length - y.toNat, ⟨0, rfl, by omega, fun j _ hj => by omega⟩, ?_⟩
    rintro b _ ⟨i, rfl, hi, hall⟩
    refine ifB_intro (fun h2 => ?_) (fun h2 => ?_)
    · have h2 : i < d.cs.length := by simpa using h2
      have st : Nat.le (Nat.succ (d.cs.length - ((i + 1 : Nat) : Int).toNat)) (d.cs.length - ((i : Nat) : Int).toNat) := stepL (by simp; omega)
      have nxt : d.cs[i].P → (0 < i → nlt (d.cs[i - 1]'(by omega)).nm d.cs[i].nm) → ∃ k : Nat, ((i + 1 : Nat) : Int) = k ∧ k ≤ d.cs.length ∧ ∀ j : Nat, ∀ hj : j < d.cs.length, j < k → d.cs[j].P ∧ (0 < j → nlt (d.cs[j - 1]'(by omega)).nm d.cs[j].nm) := fun a b =>
        ⟨i + 1, rfl, by omega, fun j hj hjk => by
          by_cases e : j = i
          · subst e; exact ⟨a, b⟩
          · exact hall j hj (by omega)⟩
      rw [waddN _ (by omega)]
      have hr : (0 : Int) ≤ (i : Nat) ∧ ((i : Nat) : Int) < rlen (coR d.cs) := ⟨by omega, by simpa using h2⟩
      refine ⟨hr, _, _, _, _, _, _, _, _, _, _, _, _, _, _, _, _, _, _, _, _, _, rget_map _ _ _ h2, Cl.of (qright_fn d.cs[i]) ⟨_, rfl, ifB_intro (fun h3 => no (fun p => ?_)) (fun h3 => ?_)⟩⟩
      · rw [decide_eq_true (p.2.1 _ (List.getElem_mem h2))] at h3; cases h3
      · have h3 : d.cs[i].P := by simpa using h3
        refine ifB_intro (fun h4 => ?_) (fun h4 => ?_)
        · have h4 : 0 < i := by simpa using h4
          have w : wsub .i64 (i : Int) 1 = ((i - 1 : Nat) : Int) := by rw [wsub_i64 (by omega) (by omega)]; omega
          rw [w]
          have hi1 : i - 1 < d.cs.length := by omega
          refine ⟨hr, _, _, _, _, _, _, _, _, _, _, _, _, _, _, _, _, _, _, _, _, _, rget_map _ _ _ h2, ⟨by omega, by simp; omega⟩, _, _, _, _, _, _, _, _, _, _, _, _, _, _, _, _, _, _, _, _, _, rget_map _ _ _ hi1, ?_⟩
          rw [sle_d]
          refine ifB_intro (fun h5 => no (fun p => ?_)) (fun h5 => ⟨rfl, nxt h3 (fun _ => ?_), st⟩)
          · simp at h5
            exact h5 (srt_get p.2.2 (by omega) h2)
          · simp at h5; exact h5
        · simp at h4
          exact ⟨rfl, nxt h3 (fun _ => by omega), st⟩
    · have h2 : ¬ i < d.cs.length := by simpa using h2
      have hs : srt CoD.nm d.cs := adj_srtC fun j hj => (hall j hj (by omega)).2
      have hn : ∀ f ∈ d.cs, f.P := fun f hf => by
        obtain ⟨j, hj, rfl⟩ := List.mem_iff_getElem.1 hf
        exact (hall j hj (by omega)).1
      rw [decide_eq_true (show d.P from ⟨⟨hl, by omega, by omega, by omega, by omega⟩, hn, hs⟩)]

theorem fnd_of {l : List CoD} {s : ByteArray} {i : Nat} (hi : i < l.length) (e : l[i].nm = s) (h : ∀ j (hj : j < i), (l[j]'(by omega)).nm ≠ s) : fAt CoD.nm l s = i := by
  unfold fAt; rw [fnd_some.2 ⟨hi, e, h⟩]

theorem sfind1_fn (c : CoD) (s : ByteArray) : Ct Try.prog 106 {} [c.sv, .ref 0 [S s]] (fun r => r = [B (decide (c.nm = s))]) := by
  refine sfind1_nf _ _ _ _ _ _ _ _ _ _ _ _ _ _ _ _ _ _ _ _ _ _ _ ?_
  rw [seq_d]

theorem sfind_fn (d : StD) (hl : d.cs.length ≤ 9223372036854775807) (s : ByteArray) : Ct Try.prog 47 {} [d.sv, S s] (fun r => r = [I (fAt CoD.nm d.cs s)]) := by
  have A : Ct Try.prog 105 {} [SL 21 (coR d.cs), .clo 106 [.ref 0 [S s]]] (fun r => r = [I (fAt CoD.nm d.cs s)]) := by
    refine sindex_nf _ _ _ _ ⟨fun _ x => ∃ i : Nat, x = i ∧ i ≤ d.cs.length ∧ ∀ j : Nat, ∀ hj : j < d.cs.length, j < i → d.cs[j].nm ≠ s, fun _ x => d.cs.length - x.toNat, ⟨0, rfl, by omega, fun j _ hj => by omega⟩, ?_⟩
    rintro b _ ⟨i, rfl, hi, hall⟩
    refine ifB_intro (fun h => ?_) (fun h => ?_)
    · have h : i < d.cs.length := by simpa using h
      refine ⟨⟨by omega, by simpa using h⟩, _, _, _, _, _, _, _, _, _, _, _, _, _, _, _, _, _, _, _, _, _, rget_map _ _ _ h, Cl.of (sfind1_fn d.cs[i] s) ⟨_, rfl, ?_⟩⟩
      rw [waddN _ (by omega)]
      refine ifB_intro (fun z => ?_) (fun z => ⟨rfl, ⟨i + 1, rfl, by omega, fun j hj hjk => ?_⟩, stepL (by simp; omega)⟩)
      · rw [fnd_of h (by simpa using z) (fun j hj => hall j (by omega) hj)]
      · by_cases e : j = i
        · subst e; simpa using z
        · exact hall j hj (by omega)
    · have h : ¬ i < d.cs.length := by simpa using h
      rw [fAt_none.2 (fun f hf => by
        obtain ⟨j, hj, rfl⟩ := List.mem_iff_getElem.1 hf
        exact hall j hj (by omega))]
  exact sfind_nf _ _ _ _ _ (Cl.of A ⟨_, rfl, rfl⟩)

/-- Cells that are few. -/
def cells40 (d : StD) : Prop := ∀ c ∈ d.cs, c.cl.length ≤ 1000000

theorem sequal_fn (a b : List CoD) (ha : a.length ≤ 9223372036854775807) (hc : ∀ c ∈ a, c.cl.length ≤ 1000000) : Ct Try.prog 107 {} [SL 21 (coR a), SL 21 (coR b), .clo 56 []] (fun r => r = [B (decide (a = b))]) := by
  have no : ¬ a = b → [B false] = [B (decide (a = b))] := fun h => by simp [h]
  refine sequal_nf _ _ _ _ _ (ifB_intro (fun h => no (fun e => by subst e; simp at h)) (fun h => ?_))
  have hlen : a.length = b.length := by simp at h; omega
  refine ⟨fun _ x => ∃ i : Nat, x = i ∧ i ≤ a.length ∧ ∀ j : Nat, ∀ hj : j < a.length, j < i → a[j] = b[j]'(by omega), fun _ x => a.length - x.toNat, ⟨0, rfl, by omega, fun j _ hj => by omega⟩, ?_⟩
  rintro _ _ ⟨i, rfl, hi, hall⟩
  refine ifB_intro (fun h => ?_) (fun h => ?_)
  · have h : i < a.length := by simpa using h
    have h' : i < b.length := by omega
    rw [waddN _ (by omega)]
    refine ⟨⟨by omega, by simpa using h⟩, _, _, _, _, _, _, _, _, _, _, _, _, _, _, _, _, _, _, _, _, _, rget_map _ _ _ h, ⟨by omega, by simpa using h'⟩, _, _, _, _, _, _, _, _, _, _, _, _, _, _, _, _, _, _, _, _, _, rget_map _ _ _ h', Cl.of (psame_fn a[i] b[i] (hc _ (List.getElem_mem h))) ⟨_, rfl, ifB_intro (fun z => no (fun e => ?_)) (fun z => ⟨rfl, ⟨i + 1, rfl, by omega, fun j hj hjk => ?_⟩, stepL (by simp; omega)⟩)⟩⟩
    · have : sameP a[i] b[i] := same_iff.2 (by subst e; rfl)
      rw [decide_eq_true this] at z; cases z
    · by_cases e : j = i
      · subst e; exact same_iff.1 (by simpa using z)
      · exact hall j hj (by omega)
  · have h : ¬ i < a.length := by simpa using h
    rw [decide_eq_true (List.ext_getElem hlen fun j h1 h2 => hall j h1 (by omega))]

theorem ssame_fn (a b : StD) (ha : a.cs.length ≤ 9223372036854775807) (hc : ∀ c ∈ a.cs, c.cl.length ≤ 1000000) : Ct Try.prog 49 {} [a.sv, b.sv] (fun r => r = [B (decide (a = b))]) := by
  refine ssame_nf _ _ _ _ _ _ _ (ifB_intro (fun h => Cl.of (sequal_fn a.cs b.cs ha hc) ⟨_, rfl, ?_⟩) (fun h => ?_))
  · have h : a.q = b.q ∧ a.t = b.t := by simpa using h
    refine congrArg (fun b => [B b]) ?_
    rw [decide_eq_decide]
    cases a; cases b; simp_all
  · have : ¬ a = b := fun e => by subst e; simp at h
    simp [this]

theorem srsame_fn (a b : StD) (ha : a.cs.length ≤ 9223372036854775807) (hc : ∀ c ∈ a.cs, c.cl.length ≤ 1000000) : Ct Try.prog 50 {} [a.sv, b.sv] (fun r => r = [B (decide (a = b))]) := by
  have no : ¬ a = b → [B false] = [B (decide (a = b))] := fun h => by simp [h]
  refine srsame_nf _ _ _ _ _ _ _ (ifB_intro (fun h => no (fun e => by subst e; simp at h)) (fun h => ?_))
  have h0 : (a.q = b.q ∧ a.t = b.t) ∧ a.cs.length = b.cs.length := by simp at h; omega
  have hlen := h0.2
  refine ⟨fun _ x => ∃ i : Nat, x = i ∧ i ≤ a.cs.length ∧ ∀ j : Nat, ∀ hj : j < a.cs.length, j < i → a.cs[j] = b.cs[j]'(by omega), fun _ x => a.cs.length - x.toNat, ⟨0, rfl, by omega, fun j _ hj => by omega⟩, ?_⟩
  rintro _ _ ⟨i, rfl, hi, hall⟩
  refine ifB_intro (fun h => ?_) (fun h => ?_)
  · have h : i < a.cs.length := by simpa using h
    have h' : i < b.cs.length := by omega
    rw [waddN _ (by omega)]
    refine ⟨⟨by omega, by simpa using h⟩, _, _, _, _, _, _, _, _, _, _, _, _, _, _, _, _, _, _, _, _, _, rget_map _ _ _ h, ⟨by omega, by simpa using h'⟩, _, _, _, _, _, _, _, _, _, _, _, _, _, _, _, _, _, _, _, _, _, rget_map _ _ _ h', Cl.of (qsame_fn a.cs[i] b.cs[i] (hc _ (List.getElem_mem h))) ⟨_, rfl, ifB_intro (fun z => no (fun e => ?_)) (fun z => ⟨rfl, ⟨i + 1, rfl, by omega, fun j hj hjk => ?_⟩, stepL (by simp; omega)⟩)⟩⟩
    · have : sameP a.cs[i] b.cs[i] := same_iff.2 (by subst e; rfl)
      rw [decide_eq_true this] at z; cases z
    · by_cases e : j = i
      · subst e; exact same_iff.1 (by simpa using z)
      · exact hall j hj (by omega)
  · have h : ¬ i < a.cs.length := by simpa using h
    have := List.ext_getElem hlen fun j h1 h2 => hall j h1 (by omega)
    rw [decide_eq_true]
    cases a; cases b; simp_all
end Go.Proofs.Ytohmeljljamigaa.St

namespace Go.Proofs.Ytohmeljljamigaa.St
open Go Go.Px Go.Proofs Go.Proofs.Ytohmeljljamigaa.Cmp
set_option maxRecDepth 100000
set_option linter.unusedVariables false

theorem ovl_comp : fovl Try.prog 160 62 := by
  refine ⟨#[4], fun x y w => ?_⟩
  rw [run_callFunc_extern Try.func160 (by kernel_rfl) (by kernel_rfl) (by kernel_rfl) (e := Extern.SlicesOverlaps.overlaps #[62, 62] #[4]) (by kernel_rfl)]

theorem sclone_fn (l : List CoD) (h : l.length ≤ 2147483648) : Ct Try.prog 109 ⟨[], [.own]⟩ [SL 21 (coR l)] (fun r => r = [SL 21 (coR l)]) := by
  refine sclone_nf _ _ (fun b hb => ifB_intro (fun e => ?_) (fun e => ⟨by simp; omega, by simp [rapp]⟩))
  have := hb e
  have : l = [] := by
    have h2 : (coR l).length = 0 := by simp only [rlen_eq] at this; omega
    rw [List.length_map] at h2
    exact List.eq_nil_of_length_eq_zero h2
  rw [this]; rfl

theorem snan_fn (s : ByteArray) : Ct Try.prog 159 {} [S s] (fun r => r = [B false]) := by
  refine snan_nf _ _ ?_
  simp
theorem scompare_fn (s t : ByteArray) : Ct Try.prog 112 {} [S s, S t] (fun r => r = [I (if nlt s t then -1 else if nlt t s then 1 else 0)]) := by
  refine scompare_nf _ _ _ (Cl.of (snan_fn s) ⟨_, rfl, Cl.of (snan_fn t) ⟨_, rfl, ?_⟩⟩)
  show ifB (slt s t) _ _
  rw [slt_d, sgt_d]
  exact ifB_d (fun h => by rw [if_pos h]) (fun h => ifB_d (fun k => by rw [if_neg h, if_pos k]) (fun k => by rw [if_neg h, if_neg k]))
theorem sapp1_fn (c : CoD) (s : ByteArray) : Ct Try.prog 111 {} [c.sv, S s] (fun r => r = [I (if nlt c.nm s then -1 else if nlt s c.nm then 1 else 0)]) :=
  sapp1_nf _ _ _ _ _ _ _ _ _ _ _ _ _ _ _ _ _ _ _ _ _ _ _ (Cl.of (scompare_fn _ _) ⟨_, rfl, rfl⟩)

theorem halfS {i j : Nat} (h : i + j ≤ 9223372036854775807) : wcv .i64 (wshr .u64 (wcv .u64 (wadd .i64 (i : Int) (j : Int))) 1) = (((i + j) / 2 : Nat) : Int) := by
  rw [waddNN _ _ h]
  have e1 : wcv .u64 ((i + j : Nat) : Int) = ((i + j : Nat) : Int) := by
    simp only [wcv, IntKind.wrap, IntKind.signed, IntKind.bits]; simp; omega
  rw [e1]
  have e2 : wshr .u64 ((i + j : Nat) : Int) 1 = (((i + j) / 2 : Nat) : Int) := by
    simp only [wshr, IntKind.bits]
    simp
    rw [Int.fdiv_eq_ediv_of_nonneg _ (by omega)]
  rw [e2]
  unfold wcv
  exact wrap_i64 (by omega) (by omega)

theorem sbin_fn (l : List CoD) (hs : srt CoD.nm l) (hl : l.length ≤ 1000000) (s : ByteArray) : Ct Try.prog 110 {} [SL 21 (coR l), S s, .clo 111 []] (fun r => ∃ b : Bool, r = [I ((ahd CoD.nm l s).length : Nat), B b]) := by
  refine sbin_nf _ _ _ _ _ ⟨fun x y => ∃ i j : Nat, x = i ∧ y = j ∧ i ≤ (ahd CoD.nm l s).length ∧ (ahd CoD.nm l s).length ≤ j ∧ j ≤ l.length, fun x y => y.toNat - x.toNat, ⟨0, l.length, rfl, by simp, by omega, ahd_len, by omega⟩, ?_⟩
  rintro _ _ ⟨i, j, rfl, rfl, h1, h2, h3⟩
  refine ifB_intro (fun h => ?_) (fun h => ?_)
  · simp at h
    rw [halfS (by omega)]
    have hm : (i + j) / 2 < l.length := by omega
    refine ⟨by omega, ⟨by omega, by simp; omega⟩, _, _, _, _, _, _, _, _, _, _, _, _, _, _, _, _, _, _, _, _, _, rget_map _ _ _ hm, Cl.of (sapp1_fn _ s) ⟨_, rfl, ifB_intro (fun h4 => ⟨rfl, ?_, ?_⟩) (fun h4 => ⟨rfl, ⟨i, (i + j) / 2, rfl, rfl, h1, ?_, by omega⟩, stepL (by simp; omega)⟩)⟩⟩
    · rw [waddN _ (by omega)]
      refine ⟨(i + j) / 2 + 1, j, rfl, rfl, ?_, h2, h3⟩
      have : nlt l[(i + j) / 2].nm s := by
        refine Decidable.byContradiction fun hn => ?_
        rw [if_neg hn] at h4
        split at h4 <;> simp at h4
      have := (ahd_iff (s := s) hs hm).2 this
      omega
    · rw [waddN _ (by omega)]
      exact stepL (by simp; omega)
    · have hn : ¬ nlt l[(i + j) / 2].nm s := fun hn => by rw [if_pos hn] at h4; simp at h4
      have : ¬ ((i + j) / 2 < (ahd CoD.nm l s).length) := fun k => hn ((ahd_iff (s := s) hs hm).1 k)
      omega
  · simp at h
    have e : i = (ahd CoD.nm l s).length := by omega
    refine ifB_intro (fun h4 => ?_) (fun h4 => ⟨_, by rw [← e]⟩)
    have h4 : i < l.length := by simpa using h4
    exact ⟨⟨by omega, by simpa using h4⟩, _, _, _, _, _, _, _, _, _, _, _, _, _, _, _, _, _, _, _, _, _, rget_map _ _ _ h4, Cl.of (sapp1_fn _ s) ⟨_, rfl, _, by rw [← e]⟩⟩

theorem getD_at {l : List CoD} {i : Nat} (h : i < l.length) : l.getD ((i : Nat) : Int).toNat co0 = l[i] := by simp [h]

theorem smay_fn (d : StD) (hl : d.cs.length ≤ 1000000) (e : EvD) : Ct Try.prog 53 {} [d.sv, e.sv] (fun r => r = [I (mayS d e)]) := by
  refine smay_nf _ _ _ _ _ _ _ _ _ _ _ (Cl.of (sright_fn d) ⟨_, rfl, ifB_intro (fun h => ?_) (fun h => ?_)⟩)
  · have h : ¬ d.P := by simpa using h
    unfold mayS; rw [if_pos h]
  have hp : d.P := by simpa using h
  refine Cl.of (check_fn e.s e.a e.k e.c e.x e.y e.z) ⟨_, rfl, ifB_intro (fun h => ?_) (fun h => ?_)⟩
  · have h : chkE e ≠ 0 := by simpa [chkE] using h
    unfold mayS; rw [if_neg (by simp [hp]), if_pos h]; rfl
  have hc : chkE e = 0 := by simpa [chkE] using h
  have hq := hp.1.2.2.1
  have hq0 := hp.1.2.1
  have w : wadd .i64 d.q 1 = d.q + 1 := wadd_i64 (by omega) (by omega)
  unfold mayS
  rw [if_neg (by simp [hp]), if_neg (by simp [hc])]
  refine Cl.of (sfind_fn d (by omega) e.c) ⟨_, rfl, ?_⟩
  rw [w]
  refine ifB_intro (fun h => ?_) (fun h => ?_)
  · rw [if_pos (by simpa using h)]
  rw [if_neg (by simpa using h)]
  refine ifB_intro (fun h => ?_) (fun h => ?_)
  · rw [if_pos (by simpa using h)]
  rw [if_neg (by simpa using h)]
  refine ifB_intro (fun h => ?_) (fun h1 => ?_)
  · have h : e.k = 1 ∧ ¬ fAt CoD.nm d.cs e.c = -1 := by simpa using h
    rw [if_pos h.1, if_pos h.2]
  refine ifB_intro (fun h => ?_) (fun h2 => ?_)
  · have h : e.k = 1 ∧ d.cs.length = 12 := by simp at h; omega
    have h1 : e.k = 1 → fAt CoD.nm d.cs e.c = -1 := by simpa using h1
    rw [if_pos h.1, if_neg (by simp [h1 h.1]), if_pos h.2]
  refine ifB_intro (fun h => ?_) (fun h3 => ?_)
  · have h : e.k = 1 := by simpa using h
    have h1 : e.k = 1 → fAt CoD.nm d.cs e.c = -1 := by simpa using h1
    have h2 : e.k = 1 → ¬ d.cs.length = 12 := by simp at h2; omega
    rw [if_pos h, if_neg (by simp [h1 h]), if_neg (h2 h)]
  have h3 : ¬ e.k = 1 := by simpa using h3
  rw [if_neg h3]
  refine ifB_intro (fun h => ?_) (fun h4 => ?_)
  · rw [if_pos (by simpa using h)]
  have h4 : ¬ fAt CoD.nm d.cs e.c = -1 := by simpa using h4
  rw [if_neg h4]
  rcases fAt_cases (nm := CoD.nm) (l := d.cs) (s := e.c) with h | ⟨i, hi, h5, _, _⟩
  · exact absurd h h4
  rw [h5, getD_at hi]
  exact ⟨⟨by omega, by simpa using hi⟩, _, _, _, _, _, _, _, _, _, _, _, _, _, _, _, _, _, _, _, _, _, rget_map _ _ _ hi, Cl.of (pmay_fn d.cs[i] e) ⟨_, rfl, rfl⟩⟩

/-- What an event needs that may be applied. -/
structure MayS (d : StD) (e : EvD) : Prop where
  p : d.P
  chk : chkE e = 0
  sq : e.s = d.q + 1
  tm : d.t ≤ e.a
  new : e.k = 1 → fAt CoD.nm d.cs e.c = -1 ∧ d.cs.length < 12
  old : e.k ≠ 1 → ∃ i : Nat, ∃ h : i < d.cs.length, fAt CoD.nm d.cs e.c = i ∧ d.cs[i].nm = e.c ∧ mayI d.cs[i] e = 0
theorem mayS_zero {d : StD} {e : EvD} (h : mayS d e = 0) : MayS d e := by
  unfold mayS at h
  by_cases hp : d.P
  case neg => rw [if_pos hp] at h; cases h
  rw [if_neg (by simp [hp])] at h
  by_cases hc : chkE e = 0
  case neg => rw [if_pos hc] at h; exact absurd h hc
  rw [if_neg (by simp [hc])] at h
  by_cases hs : e.s = d.q + 1
  case neg => rw [if_pos hs] at h; cases h
  rw [if_neg (by simp [hs])] at h
  by_cases ht : e.a < d.t
  · rw [if_pos ht] at h; cases h
  rw [if_neg ht] at h
  refine ⟨hp, hc, hs, by omega, fun hk => ?_, fun hk => ?_⟩
  · rw [if_pos hk] at h
    have hl := hp.1.1
    by_cases hf : fAt CoD.nm d.cs e.c = -1
    case neg => rw [if_pos hf] at h; cases h
    rw [if_neg (by simp [hf])] at h
    by_cases h12 : d.cs.length = 12
    · rw [if_pos h12] at h; cases h
    · exact ⟨hf, by omega⟩
  · rw [if_neg hk] at h
    rcases fAt_cases (nm := CoD.nm) (l := d.cs) (s := e.c) with h5 | ⟨i, hi, h5, h6, _⟩
    · rw [if_pos h5] at h; cases h
    · rw [if_neg (by omega), h5, getD_at hi] at h
      exact ⟨i, hi, h5, h6, h⟩

/-- A component that is registered. -/
theorem new_ok {d : StD} {e : EvD} (m : MayS d e) (hk : e.k = 1) : (newC e.c e.x e.a).2 = 0 ∧ (newC e.c e.x e.a).1.nm = e.c := by
  obtain ⟨_, hn, hv, ht, _⟩ := chkE_zero m.chk
  have hb : namB e.c = true := by unfold namB; rw [decide_eq_true hn]
  have l1 : lo1 e.k = 1 := by simp [lo1, hk]
  have l2 : hi1 e.k = 3 := by simp [hi1, hk]
  unfold newC
  rw [if_neg (by simp [hb]), if_neg (by omega), if_neg (by simp [ht])]
  split <;> exact ⟨rfl, rfl⟩

theorem nxt_nm {d : StD} {e : EvD} (m : MayS d e) : (nxtS d e).nm = e.c := by
  unfold nxtS
  by_cases hk : e.k = 1
  · rw [if_pos hk]; exact (new_ok m hk).2
  · rw [if_neg hk]
    obtain ⟨i, hi, h1, h2, _⟩ := m.old hk
    rw [h1, getD_at hi, (tell_nm _ _).1, h2]

theorem sapply_fn (d : StD) (hl : d.cs.length ≤ 1000000) (e : EvD) : Ct Try.prog 51 {} [d.sv, e.sv] (fun r => r = [(appS d e).1.sv, I (appS d e).2]) := by
  refine sapply_nf _ _ _ _ _ _ _ _ _ _ _ (Cl.of (smay_fn d hl e) ⟨_, rfl, ifB_intro (fun h => ?_) (fun h => ?_)⟩)
  · have h : mayS d e ≠ 0 := by simpa using h
    unfold appS; rw [if_pos h]
  have h : mayS d e = 0 := by simpa using h
  have m := mayS_zero h
  have ea : appS d e = (⟨withB CoD.nm d.cs (nxtS d e), e.s, e.a⟩, 0) := by unfold appS; rw [if_neg (by simp [h])]
  rw [ea]
  refine Cl.of (sclone_fn d.cs (by omega)) ⟨_, rfl, ifB_intro (fun hk => ?_) (fun hk => ?_)⟩
  · have hk : e.k = 1 := by simpa using hk
    obtain ⟨n1, n2⟩ := new_ok m hk
    have hn := (m.new hk).1
    have hno : ∀ g ∈ d.cs, g.nm ≠ e.c := fAt_none.1 hn
    refine Cl.of (pnew_fn e.c e.x e.a) ⟨_, _, _, _, _, _, _, _, _, _, _, _, _, _, _, _, _, _, _, _, _, _, rfl, ifB_intro (fun z => by simp [n1] at z) (fun _ => Cl.ofQ (sbin_fn d.cs m.p.2.2 hl e.c) ?_)⟩
    rintro _ ⟨b, rfl⟩
    refine ⟨_, _, rfl, Cl.of (Ins.cinsert_fn (coR d.cs) (ahd CoD.nm d.cs e.c).length (newC e.c e.x e.a).1.row (by simpa using ahd_len) (by simpa using hl) ovl_comp) ⟨_, rfl, ?_⟩⟩
    have : withB CoD.nm d.cs (nxtS d e) = d.cs.take (ahd CoD.nm d.cs e.c).length ++ (newC e.c e.x e.a).1 :: d.cs.drop (ahd CoD.nm d.cs e.c).length := by
      unfold nxtS; rw [if_pos hk, withB_new (by rw [n2]; exact hno), insB_at, n2]
    rw [this]
    simp [List.map_take, List.map_drop]
  · have hk : ¬ e.k = 1 := by simpa using hk
    obtain ⟨i, hi, h1, h2, h3⟩ := m.old hk
    have hr : (0 : Int) ≤ (i : Nat) ∧ ((i : Nat) : Int) < rlen (coR d.cs) := ⟨by omega, by simpa using hi⟩
    have et : tellR d.cs[i] e = [(tellC d.cs[i] e).sv, I 0] := by unfold tellR; rw [if_pos h3]
    have ct := ptell_fn d.cs[i] e
    rw [et] at ct
    have es : rset (coR d.cs) (i : Nat) (tellC d.cs[i] e).row = coR (withB CoD.nm d.cs (nxtS d e)) := by
      have : nxtS d e = tellC d.cs[i] e := by unfold nxtS; rw [if_neg hk, h1, getD_at hi]
      rw [rset_map, set_withB m.p.2.2 hi (tell_nm _ _).1, this]
    refine Cl.of (sfind_fn d (by omega) e.c) ⟨_, rfl, ?_⟩
    rw [h1]
    have k : Cl Try.prog 58 sP [d.cs[i].sv, e.sv] (fun rs => ∃ s2 x22 x23 x24 x25 l2 x26 x27 x28 x29 x30 x31 x32 x33 x34 x35 x36 x37 x38 x39 x40 x41, (rs = [.agg [S s2, I x22, I x23, I x24, I x25, SL 2 l2, I x26, I x27, I x28, I x29, I x30, I x31, I x32, I x33, I x34, I x35, I x36, I x37, I x38, I x39, I x40], I x41]) ∧ ifB (ine x41 0) ([d.sv, I x41] = [StD.sv ⟨withB CoD.nm d.cs (nxtS d e), e.s, e.a⟩, I 0]) (((0 : Int) ≤ (i : Nat) ∧ ((i : Nat) : Int) < rlen (coR d.cs)) ∧ ((0 : Int) ≤ (i : Nat) ∧ ((i : Nat) : Int) < rlen (coR d.cs)) ∧ [.agg [SL 21 (rset (coR d.cs) (i : Nat) [S s2, I x22, I x23, I x24, I x25, SL 2 l2, I x26, I x27, I x28, I x29, I x30, I x31, I x32, I x33, I x34, I x35, I x36, I x37, I x38, I x39, I x40]), I e.s, I e.a], I 0] = [StD.sv ⟨withB CoD.nm d.cs (nxtS d e), e.s, e.a⟩, I 0])) := by
      refine Cl.of ct ⟨_, _, _, _, _, _, _, _, _, _, _, _, _, _, _, _, _, _, _, _, _, _, rfl, ifB_intro (fun z => by simp at z) (fun _ => ⟨hr, hr, ?_⟩)⟩
      exact congrArg (fun z => [SV.agg [SL 21 z, I e.s, I e.a], I 0]) es
    exact ⟨hr, hr, _, _, _, _, _, _, _, _, _, _, _, _, _, _, _, _, _, _, _, _, _, rget_map _ _ _ hi, k, k⟩
end Go.Proofs.Ytohmeljljamigaa.St

namespace Go.Proofs.Ytohmeljljamigaa.St
open Go Go.Px Go.Proofs Go.Proofs.Ytohmeljljamigaa.Cmp
set_option maxRecDepth 100000
set_option linter.unusedVariables false

end Go.Proofs.Ytohmeljljamigaa.St

namespace Go.Proofs.Ytohmeljljamigaa.St
open Go Go.Px Go.Proofs Go.Proofs.Ytohmeljljamigaa.Cmp
set_option maxRecDepth 100000
set_option linter.unusedVariables false

/-- A state that is small. -/
def lim (d : StD) : Prop := d.cs.length ≤ 20 ∧ ∀ c ∈ d.cs, c.cl.length ≤ 40
instance (d : StD) : Decidable (lim d) := inferInstanceAs (Decidable (_ ∧ _))

theorem new_cl (nm : ByteArray) (ro a : Int) : (newC nm ro a).1.cl.length ≤ 40 := by
  unfold newC
  repeat' split
  all_goals simp [co0]

theorem nxt_cl {d : StD} {e : EvD} (h : lim d) (m : MayS d e) : (nxtS d e).cl.length ≤ 40 := by
  unfold nxtS
  by_cases hk : e.k = 1
  · rw [if_pos hk]; exact new_cl _ _ _
  · rw [if_neg hk]
    obtain ⟨i, hi, h1, h2, h3⟩ := m.old hk
    rw [h1, getD_at hi]
    have := h.2 _ (List.getElem_mem hi)
    rcases tell_cl (may_zero.1 h3) with h4 | h4 <;> omega

theorem nxt_len {d : StD} {e : EvD} (m : MayS d e) : (withB CoD.nm d.cs (nxtS d e)).length = d.cs.length + (if e.k = 1 then 1 else 0) := by
  have hn := nxt_nm m
  by_cases hk : e.k = 1
  · rw [if_pos hk, withB_new (by rw [hn]; exact fAt_none.1 (m.new hk).1), len_insB]
  · rw [if_neg hk]
    obtain ⟨i, hi, h1, h2, h3⟩ := m.old hk
    rw [len_withB_old m.p.2.2 hi (by rw [hn, h2])]; rfl

theorem app_zero {d : StD} {e : EvD} (h : (appS d e).2 = 0) : mayS d e = 0 ∧ appS d e = (⟨withB CoD.nm d.cs (nxtS d e), e.s, e.a⟩, 0) := by
  unfold appS at h ⊢
  by_cases hm : mayS d e = 0
  · exact ⟨hm, by rw [if_neg (by simp [hm])]⟩
  · rw [if_pos hm] at h; exact absurd h hm
theorem app_err {d : StD} {e : EvD} (h : (appS d e).2 ≠ 0) : appS d e = (d, mayS d e) := by
  unfold appS at h ⊢
  by_cases hm : mayS d e = 0
  · rw [if_neg (by simp [hm])] at h; exact absurd rfl h
  · rw [if_pos hm]
theorem lim_app {d : StD} (h : lim d) (e : EvD) : lim (appS d e).1 := by
  by_cases h0 : (appS d e).2 = 0
  · obtain ⟨hm, ea⟩ := app_zero h0
    have m := mayS_zero hm
    rw [ea]
    refine ⟨?_, fun c hc => ?_⟩
    · show (withB CoD.nm d.cs (nxtS d e)).length ≤ 20
      rw [nxt_len m]
      have := m.p.1.1
      split <;> omega
    · rcases mem_withB.1 hc with rfl | ⟨hc, _⟩
      · exact nxt_cl h m
      · exact h.2 c hc
  · rw [app_err h0]; exact h

theorem fold_cons (d : StD) (e : EvD) (l : List EvD) : foldS d (e :: l) = if (appS d e).2 ≠ 0 then (d, 0, (appS d e).2) else ((foldS (appS d e).1 l).1, (foldS (appS d e).1 l).2.1 + 1, (foldS (appS d e).1 l).2.2) := rfl

theorem lim_fold : ∀ (l : List EvD) {d : StD}, lim d → lim (foldS d l).1
  | [], _, h => h
  | e :: l, d, h => by
    rw [fold_cons]
    split
    · exact h
    · exact lim_fold l (lim_app h e)

/-- How a fold goes on. -/
def goes (d : StD) (l : List EvD) (i : Nat) (d' : StD) : Prop := foldS d l = ((foldS d' (l.drop i)).1, i + (foldS d' (l.drop i)).2.1, (foldS d' (l.drop i)).2.2)
theorem goes_step {d d' : StD} {l : List EvD} {i : Nat} (hi : i < l.length) (h : goes d l i d') (h0 : (appS d' l[i]).2 = 0) : goes d l (i + 1) (appS d' l[i]).1 := by
  unfold goes at h ⊢
  rw [h, List.drop_eq_getElem_cons hi, fold_cons, if_neg (by simp [h0])]
  simp; omega
theorem goes_stop {d d' : StD} {l : List EvD} {i : Nat} (hi : i < l.length) (h : goes d l i d') (h0 : (appS d' l[i]).2 ≠ 0) : foldS d l = (d', i, (appS d' l[i]).2) := by
  unfold goes at h
  rw [h, List.drop_eq_getElem_cons hi, fold_cons, if_pos h0]
  simp
theorem goes_end {d d' : StD} {l : List EvD} {i : Nat} (hi : l.length ≤ i) (h : goes d l i d') : foldS d l = (d', i, 0) := by
  unfold goes at h
  rw [h, List.drop_eq_nil_of_le hi]; rfl

theorem sfold_fn (d : StD) (hd : lim d) (l : List EvD) (hl : l.length ≤ 9223372036854775807) : Ct Try.prog 54 {} [d.sv, SL 7 (eR l)] (fun r => r = [(foldS d l).1.sv, I (foldS d l).2.1, I (foldS d l).2.2]) := by
  refine sfold_nf _ _ _ _ _ ⟨fun x r q t => ∃ (d' : StD) (i : Nat), x = i ∧ i ≤ l.length ∧ r = coR d'.cs ∧ q = d'.q ∧ t = d'.t ∧ lim d' ∧ goes d l i d', fun x _ _ _ => l.length - x.toNat, ⟨d, 0, rfl, by omega, rfl, rfl, rfl, hd, by simp [goes]⟩, ?_⟩
  rintro _ _ _ _ ⟨d', i, rfl, hi, rfl, rfl, rfl, hd', hg⟩
  refine ifB_intro (fun h => ?_) (fun h => ?_)
  · have h : i < l.length := by simpa using h
    rw [waddN _ (by omega)]
    refine ⟨⟨by omega, by simpa using h⟩, _, _, _, _, _, _, _, rget_map _ _ _ h, Cl.of (sapply_fn d' (by have := hd'.1; omega) l[i]) ⟨_, _, _, _, rfl, ifB_intro (fun z => ?_) (fun z => ⟨rfl, ⟨_, i + 1, rfl, by omega, rfl, rfl, rfl, lim_app hd' _, goes_step h hg (by simpa using z)⟩, stepL (by simp; omega)⟩)⟩⟩
    rw [goes_stop h hg (by simpa using z)]
  · have h : ¬ i < l.length := by simpa using h
    have : i = l.length := by omega
    rw [goes_end (by omega) hg, this]
    simp

def awE : List EvD := [⟨1, 3, 1, ⟨#[98]⟩, 1, 0, 0⟩, ⟨2, 3, 1, ⟨#[97]⟩, 2, 0, 0⟩, ⟨3, 4, 5, ⟨#[97]⟩, 1, 0, 0⟩, ⟨4, 4, 5, ⟨#[98]⟩, 0, 0, 0⟩]
def awF : StD × Nat × Int := foldS ⟨[], 0, 0⟩ awE

theorem short_lim {d : StD} (h : d.short) : lim d := ⟨h.2, fun c hc => (h.1 c hc).2⟩

end Go.Proofs.Ytohmeljljamigaa.St
