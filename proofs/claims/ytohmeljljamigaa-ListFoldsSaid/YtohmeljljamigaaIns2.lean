/- slices.Insert of one element: what it comes to. -/
import Derived.Test.YtohmeljljamigaaIns
namespace Go.Proofs.Ytohmeljljamigaa.Ins
open Go Go.Px Go.Proofs
set_option maxRecDepth 100000
set_option linter.unusedVariables false

theorem finsert_fn (rows : List (List SV)) (i : Nat) (r : List SV) (hi : i ≤ rows.length) (hlen : rows.length ≤ 1000000) (ho : fovl Try.prog 190 22) :
    Ct Try.prog 149 OO [SL 3 rows, I i, SL 3 [r]] (fun x => x = [SL 3 (rows.take i ++ r :: rows.drop i)]) := by
  refine finsert_nf _ _ _ _ fun x hx hxm => ?_
  have w1 : wadd IntKind.i64 (rows.length : Int) 1 = rows.length + 1 := wadd_i64 (by omega) (by omega)
  have w2 : wadd IntKind.i64 (i : Int) 1 = i + 1 := wadd_i64 (by omega) (by omega)
  have w3 : wsub IntKind.i64 ((rows.length : Int) + 1) i = rows.length + 1 - i := wsub_i64 (by omega) (by omega)
  have hone : (([r] : List (List SV)).length : Int) = 1 := rfl
  simp only [rlen_eq, lsum_eq, isub_eq, Int.zero_add, Int.sub_zero, hone, w1, w2, w3, imin_eq] at hx ⊢
  refine ⟨⟨by omega, by omega, by omega⟩, ifB_intro (fun h => ?_) (fun _ => ifB_intro (fun h => ⟨by omega, fun h1 => ⟨?_, ?_⟩, fun h1 => ⟨by omega, ?_⟩⟩) (fun h => ifB_intro (fun h1 => ?_) (fun h1 => ?_)))⟩
  · simp at h
  · rw [rput_len _ _ _ (Nat.le_refl _)]; simp
  · simp at h
    have h : i = rows.length := by omega
    subst h
    rw [show ((rows.length : Int) + 1) = ((rows.length + 1 : Nat) : Int) by simp, rsub0, show rows.length + 1 = rows.length + [r].length from rfl, rput_take2 _ _ _ (Nat.le_refl _)]
    simp
  · simp at h
    have h : i = rows.length := by omega
    subst h
    simp [rapp, rsub]
  · simp at h h1
    have e0 : (i : Int) + ((rows.length : Int) + 1 - i) = ((rows.length + 1 : Nat) : Int) := by omega
    have e1 : rrep ((rows.length : Int) + 1 - i) ([S (ByteArray.mk (Array.mk [])), SL 1 [], SL 1 []]) = List.replicate (rows.length + 1 - i) ([S (ByteArray.mk (Array.mk [])), SL 1 [], SL 1 []]) := by unfold rrep; congr 1; omega
    have e2 : (i : Int) + min ((rows.length : Int) - i) (((rows.length + 1 : Nat) : Int) - ((i + 1 : Nat) : Int)) = rows.length := by omega
    have e3 : ((i : Int) + 1) = ((i + 1 : Nat) : Int) := by simp
    simp only [e0, e1, rsub0, e3, e2, rsubE]
    have l0 : (rapp (rows.take i) (List.replicate (rows.length + 1 - i) ([S (ByteArray.mk (Array.mk [])), SL 1 [], SL 1 []]))).length = rows.length + 1 := by simp [rapp]; omega
    have l1 : (rput (rapp (rows.take i) (List.replicate (rows.length + 1 - i) ([S (ByteArray.mk (Array.mk [])), SL 1 [], SL 1 []]))) i [r]).length = rows.length + 1 := by rw [rput_len _ _ _ (by omega), l0]; simp; omega
    have l2 : (rput (rput (rapp (rows.take i) (List.replicate (rows.length + 1 - i) ([S (ByteArray.mk (Array.mk [])), SL 1 [], SL 1 []]))) i [r]) ((i + 1 : Nat) : Int) (rows.drop i)).length = rows.length + 1 := by rw [rput_len _ _ _ (by omega), l1]; simp; omega
    refine ⟨⟨by omega, by omega, by omega⟩, ⟨⟨by omega, by omega⟩, by omega, by omega⟩, fun h2 x1 hx1 hxm1 => ⟨⟨by omega, by omega, by omega⟩, ⟨by rw [l0]; omega, by omega⟩, ⟨by omega, by omega, by omega⟩, ⟨by omega, by omega, by omega⟩, ⟨by rw [l1]; omega, by omega⟩, by rw [l2]; omega, ?_⟩, fun h2 => by omega⟩
    have t2 := rput_take2 (rput (rapp (rows.take i) (List.replicate (rows.length + 1 - i) ([S (ByteArray.mk (Array.mk [])), SL 1 [], SL 1 []]))) i [r]) (rows.drop i) (i + 1) (by rw [l1]; omega)
    rw [show (i + 1) + (rows.drop i).length = rows.length + 1 by simp; omega] at t2
    have t1 := rput_take2 (rapp (rows.take i) (List.replicate (rows.length + 1 - i) ([S (ByteArray.mk (Array.mk [])), SL 1 [], SL 1 []]))) [r] i (by rw [l0]; omega)
    rw [t2, show i + 1 = i + [r].length from rfl, t1]
    simp [rapp, hi]
  · simp at h h1
    have hlt : i < rows.length := by omega
    have e2 : (i : Int) + min ((rows.length : Int) + 1 - i) ((rows.length : Int) + 1 - (i + 1)) = rows.length := by omega
    have e3 : ((i : Int) + 1) = ((i + 1 : Nat) : Int) := by simp
    have e4 : ((rows.length : Int) + 1) = ((rows.length + 1 : Nat) : Int) := by simp
    simp only [e2, rsubE]
    have l1 : (rput rows ((i : Int) + 1) (rows.drop i)).length = rows.length + 1 := by rw [e3, rput_len _ _ _ (by omega)]; simp; omega
    have l2 : (rput (rput rows ((i : Int) + 1) (rows.drop i)) (i : Int) [r]).length = rows.length + 1 := by rw [rput_len _ _ _ (by omega), l1]; simp; omega
    refine ⟨⟨by omega, by omega, by omega⟩, ⟨by omega, by omega, by omega⟩, ho, ifB_intro (fun _ => ⟨⟨by omega, by omega, by omega⟩, ⟨by omega, by omega, by omega⟩, ⟨by omega, by omega⟩, ⟨by omega, by omega, by omega⟩, ⟨by rw [l1]; omega, by omega⟩, by rw [l2]; omega, ?_⟩) (fun hb => by simp at hb)⟩
    rw [e4, rsub0, List.take_of_length_le (by rw [l2]; exact Nat.le_refl _)]
    have d0 : rows.drop (i + 1 + (rows.drop i).length) = [] := List.drop_eq_nil_of_le (by simp; omega)
    simp only [rput, e3, Int.toNat_natCast, d0, List.append_nil]
    rw [List.take_append_of_le_length (by simp; omega), List.take_take, Nat.min_eq_left (by omega), List.drop_append_of_le_length (by simp; omega), List.drop_of_length_le (by simp; omega)]
    simp

theorem cinsert_fn (rows : List (List SV)) (i : Nat) (r : List SV) (hi : i ≤ rows.length) (hlen : rows.length ≤ 1000000) (ho : fovl Try.prog 160 62) :
    Ct Try.prog 113 OO [SL 21 rows, I i, SL 21 [r]] (fun x => x = [SL 21 (rows.take i ++ r :: rows.drop i)]) := by
  refine cinsert_nf _ _ _ _ fun x hx hxm => ?_
  have w1 : wadd IntKind.i64 (rows.length : Int) 1 = rows.length + 1 := wadd_i64 (by omega) (by omega)
  have w2 : wadd IntKind.i64 (i : Int) 1 = i + 1 := wadd_i64 (by omega) (by omega)
  have w3 : wsub IntKind.i64 ((rows.length : Int) + 1) i = rows.length + 1 - i := wsub_i64 (by omega) (by omega)
  have hone : (([r] : List (List SV)).length : Int) = 1 := rfl
  simp only [rlen_eq, lsum_eq, isub_eq, Int.zero_add, Int.sub_zero, hone, w1, w2, w3, imin_eq] at hx ⊢
  refine ⟨⟨by omega, by omega, by omega⟩, ifB_intro (fun h => ?_) (fun _ => ifB_intro (fun h => ⟨by omega, fun h1 => ⟨?_, ?_⟩, fun h1 => ⟨by omega, ?_⟩⟩) (fun h => ifB_intro (fun h1 => ?_) (fun h1 => ?_)))⟩
  · simp at h
  · rw [rput_len _ _ _ (Nat.le_refl _)]; simp
  · simp at h
    have h : i = rows.length := by omega
    subst h
    rw [show ((rows.length : Int) + 1) = ((rows.length + 1 : Nat) : Int) by simp, rsub0, show rows.length + 1 = rows.length + [r].length from rfl, rput_take2 _ _ _ (Nat.le_refl _)]
    simp
  · simp at h
    have h : i = rows.length := by omega
    subst h
    simp [rapp, rsub]
  · simp at h h1
    have e0 : (i : Int) + ((rows.length : Int) + 1 - i) = ((rows.length + 1 : Nat) : Int) := by omega
    have e1 : rrep ((rows.length : Int) + 1 - i) ([S (ByteArray.mk (Array.mk [])), I 0, I 0, I 0, I 0, SL 2 [], I 0, I 0, I 0, I 0, I 0, I 0, I 0, I 0, I 0, I 0, I 0, I 0, I 0, I 0, I 0]) = List.replicate (rows.length + 1 - i) ([S (ByteArray.mk (Array.mk [])), I 0, I 0, I 0, I 0, SL 2 [], I 0, I 0, I 0, I 0, I 0, I 0, I 0, I 0, I 0, I 0, I 0, I 0, I 0, I 0, I 0]) := by unfold rrep; congr 1; omega
    have e2 : (i : Int) + min ((rows.length : Int) - i) (((rows.length + 1 : Nat) : Int) - ((i + 1 : Nat) : Int)) = rows.length := by omega
    have e3 : ((i : Int) + 1) = ((i + 1 : Nat) : Int) := by simp
    simp only [e0, e1, rsub0, e3, e2, rsubE]
    have l0 : (rapp (rows.take i) (List.replicate (rows.length + 1 - i) ([S (ByteArray.mk (Array.mk [])), I 0, I 0, I 0, I 0, SL 2 [], I 0, I 0, I 0, I 0, I 0, I 0, I 0, I 0, I 0, I 0, I 0, I 0, I 0, I 0, I 0]))).length = rows.length + 1 := by simp [rapp]; omega
    have l1 : (rput (rapp (rows.take i) (List.replicate (rows.length + 1 - i) ([S (ByteArray.mk (Array.mk [])), I 0, I 0, I 0, I 0, SL 2 [], I 0, I 0, I 0, I 0, I 0, I 0, I 0, I 0, I 0, I 0, I 0, I 0, I 0, I 0, I 0]))) i [r]).length = rows.length + 1 := by rw [rput_len _ _ _ (by omega), l0]; simp; omega
    have l2 : (rput (rput (rapp (rows.take i) (List.replicate (rows.length + 1 - i) ([S (ByteArray.mk (Array.mk [])), I 0, I 0, I 0, I 0, SL 2 [], I 0, I 0, I 0, I 0, I 0, I 0, I 0, I 0, I 0, I 0, I 0, I 0, I 0, I 0, I 0]))) i [r]) ((i + 1 : Nat) : Int) (rows.drop i)).length = rows.length + 1 := by rw [rput_len _ _ _ (by omega), l1]; simp; omega
    refine ⟨⟨by omega, by omega, by omega⟩, ⟨⟨by omega, by omega⟩, by omega, by omega⟩, fun h2 x1 hx1 hxm1 => ⟨⟨by omega, by omega, by omega⟩, ⟨by rw [l0]; omega, by omega⟩, ⟨by omega, by omega, by omega⟩, ⟨by omega, by omega, by omega⟩, ⟨by rw [l1]; omega, by omega⟩, by rw [l2]; omega, ?_⟩, fun h2 => by omega⟩
    have t2 := rput_take2 (rput (rapp (rows.take i) (List.replicate (rows.length + 1 - i) ([S (ByteArray.mk (Array.mk [])), I 0, I 0, I 0, I 0, SL 2 [], I 0, I 0, I 0, I 0, I 0, I 0, I 0, I 0, I 0, I 0, I 0, I 0, I 0, I 0, I 0]))) i [r]) (rows.drop i) (i + 1) (by rw [l1]; omega)
    rw [show (i + 1) + (rows.drop i).length = rows.length + 1 by simp; omega] at t2
    have t1 := rput_take2 (rapp (rows.take i) (List.replicate (rows.length + 1 - i) ([S (ByteArray.mk (Array.mk [])), I 0, I 0, I 0, I 0, SL 2 [], I 0, I 0, I 0, I 0, I 0, I 0, I 0, I 0, I 0, I 0, I 0, I 0, I 0, I 0, I 0]))) [r] i (by rw [l0]; omega)
    rw [t2, show i + 1 = i + [r].length from rfl, t1]
    simp [rapp, hi]
  · simp at h h1
    have hlt : i < rows.length := by omega
    have e2 : (i : Int) + min ((rows.length : Int) + 1 - i) ((rows.length : Int) + 1 - (i + 1)) = rows.length := by omega
    have e3 : ((i : Int) + 1) = ((i + 1 : Nat) : Int) := by simp
    have e4 : ((rows.length : Int) + 1) = ((rows.length + 1 : Nat) : Int) := by simp
    simp only [e2, rsubE]
    have l1 : (rput rows ((i : Int) + 1) (rows.drop i)).length = rows.length + 1 := by rw [e3, rput_len _ _ _ (by omega)]; simp; omega
    have l2 : (rput (rput rows ((i : Int) + 1) (rows.drop i)) (i : Int) [r]).length = rows.length + 1 := by rw [rput_len _ _ _ (by omega), l1]; simp; omega
    refine ⟨⟨by omega, by omega, by omega⟩, ⟨by omega, by omega, by omega⟩, ho, ifB_intro (fun _ => ⟨⟨by omega, by omega, by omega⟩, ⟨by omega, by omega, by omega⟩, ⟨by omega, by omega⟩, ⟨by omega, by omega, by omega⟩, ⟨by rw [l1]; omega, by omega⟩, by rw [l2]; omega, ?_⟩) (fun hb => by simp at hb)⟩
    rw [e4, rsub0, List.take_of_length_le (by rw [l2]; exact Nat.le_refl _)]
    have d0 : rows.drop (i + 1 + (rows.drop i).length) = [] := List.drop_eq_nil_of_le (by simp; omega)
    simp only [rput, e3, Int.toNat_natCast, d0, List.append_nil]
    rw [List.take_append_of_le_length (by simp; omega), List.take_take, Nat.min_eq_left (by omega), List.drop_append_of_le_length (by simp; omega), List.drop_of_length_le (by simp; omega)]
    simp

end Go.Proofs.Ytohmeljljamigaa.Ins
