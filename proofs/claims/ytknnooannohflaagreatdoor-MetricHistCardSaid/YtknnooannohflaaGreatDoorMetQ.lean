/- Layer 26: the region in which the families are made, whatever its order. -/
import Derived.Test.YtknnooannohflaaGreatDoorMetP
namespace Go.Proofs.YtknnooannohflaaGreatDoor.Met
open Go Go.Px Go.Proofs
set_option maxRecDepth 100000
set_option linter.unusedVariables false

mutual
def cleanB : SV → Bool
 | .val _ | .slice .. | .unk => true
 | .ptr id _ => Nat.beq id 128
 | .agg cs => cleanL cs
 | _ => false
def cleanL : List SV → Bool
 | [] => true
 | c :: cs => cleanB c && cleanL cs
end

mutual
theorem clean_kill {id : Nat} (hid : id ≠ 128) : ∀ (s : SV), cleanB s = true → hmap (killG id) s = s
 | .val _, _ => rfl
 | .slice .., _ => rfl
 | .unk, _ => rfl
 | .ptr k off, h => by
  have hk : k = 128 := Nat.eq_of_beq_eq_true h
  subst hk
  show (bif Nat.beq 128 id then SV.unk else .ptr 128 off) = _
  have : Nat.beq 128 id = false := by
   cases hb : Nat.beq 128 id with
   | false => rfl
   | true => exact absurd (Nat.eq_of_beq_eq_true hb).symm hid
  rw [this]; rfl
 | .agg cs, h => by
  show SV.agg (hmapL (killG id) cs) = _
  rw [clean_killL hid cs h]
theorem clean_killL {id : Nat} (hid : id ≠ 128) : ∀ (l : List SV), cleanL l = true → hmapL (killG id) l = l
 | [], _ => rfl
 | c :: cs, h => by
  have h : cleanB c = true ∧ cleanL cs = true := by simpa [cleanL] using h
  show hmap (killG id) c :: hmapL (killG id) cs = _
  rw [clean_kill hid c h.1, clean_killL hid cs h.2]
end
mutual
theorem clean_frz {id sz : Nat} {rows : List (List SV)} : ∀ (s : SV), cleanB s = true → hmap (frzG id sz rows) s = s
 | .val _, _ => rfl
 | .slice .., _ => rfl
 | .unk, _ => rfl
 | .ptr k off, h => rfl
 | .agg cs, h => by
  show SV.agg (hmapL (frzG id sz rows) cs) = _
  rw [clean_frzL cs h]
theorem clean_frzL {id sz : Nat} {rows : List (List SV)} : ∀ (l : List SV), cleanL l = true → hmapL (frzG id sz rows) l = l
 | [], _ => rfl
 | c :: cs, h => by
  have h : cleanB c = true ∧ cleanL cs = true := by simpa [cleanL] using h
  show hmap (frzG id sz rows) c :: hmapL (frzG id sz rows) cs = _
  rw [clean_frz c h.1, clean_frzL cs h.2]
end
theorem clean_gd {s : SV} (h : cleanB s = true) : ∀ t w v, s ≠ .gd t w v := by
 rintro t w v rfl
 cases h
theorem cleanL_lget : ∀ {l : List SV}, cleanL l = true → ∀ k, cleanB (lget l k) = true
 | [], _, _ => rfl
 | c :: cs, h, 0 => by
  have h : cleanB c = true ∧ cleanL cs = true := by simpa [cleanL] using h
  exact h.1
 | c :: cs, h, k + 1 => by
  have h : cleanB c = true ∧ cleanL cs = true := by simpa [cleanL] using h
  exact cleanL_lget h.2 k

def vals5 (cs : List (List SV)) (s a : Int) (F : Nat → FaD) : List SV := [(SV.agg [SL 21 cs, I s, I a]), (SL 1 [[I 2], [I 3]]), (SV.agg (FaD.row (F 0))), (SV.agg [SL 21 cs, I s, I a]), (SL 1 [[I 2], [I 3]]), (SV.agg (FaD.row (F 1))), (SV.agg [SL 21 cs, I s, I a]), (SL 1 [[S (bA [103, 111, 111, 100])], [S (bA [98, 97, 100])], [S (bA [108, 97, 116, 101])]]), (SV.agg (FaD.row (F 2))), (SV.ptr 128 0), (SL 21 cs), (I (rlen cs)), (SV.agg (FaD.row (F 3))), (SV.agg [SL 21 cs, I s, I a]), (SL 1 [[I 1], [I 3]]), (SV.agg (FaD.row (F 4))), (SV.ptr 128 1), (I s), (SV.agg (FaD.row (F 5))), (SV.ptr 128 2), (I a), (SV.agg (FaD.row (F 6))), (SV.agg [SL 21 cs, I s, I a]), (SL 1 [[S (bA [97, 100, 109, 105, 116])], [S (bA [114, 101, 106, 101, 99, 116])], [S (bA [114, 101, 102, 105, 108, 108])]]), (SV.agg (FaD.row (F 7))), (SV.agg [SL 21 cs, I s, I a]), (SL 1 [[I 1], [I 3]]), (SV.agg (FaD.row (F 8))), (SV.agg [SL 21 cs, I s, I a]), (SL 1 [[S (bA [97, 116, 116, 101, 109, 112, 116])], [S (bA [98, 97, 99, 107, 111, 102, 102])], [S (bA [103, 105, 118, 101, 117, 112])]]), (SV.agg (FaD.row (F 9))), (SV.agg [SL 21 cs, I s, I a]), (SL 1 [[I 1]]), (SV.agg (FaD.row (F 10))), (SL 4 [FaD.row (F 0), FaD.row (F 1), FaD.row (F 2), FaD.row (F 3), FaD.row (F 4), FaD.row (F 5), FaD.row (F 6), FaD.row (F 7), FaD.row (F 8), FaD.row (F 9), FaD.row (F 10)]), (SL 4 [FaD.row (F 0), FaD.row (F 1), FaD.row (F 2), FaD.row (F 3), FaD.row (F 4), FaD.row (F 5), FaD.row (F 6), FaD.row (F 7), FaD.row (F 8), FaD.row (F 9), FaD.row (F 10)])]
def val5 (cs : List (List SV)) (s a : Int) (F : Nat → FaD) (i : Nat) : SV := lget (vals5 cs s a F) i
def dst5 (i : Nat) : Nat := bif Nat.beq i 35 then 6 else 15 + i

theorem vals5_clean (cs : List (List SV)) (s a : Int) (F : Nat → FaD) : cleanL (vals5 cs s a F) = true := by kernel_rfl
theorem st5_clean (cs : List (List SV)) (s a : Int) (b : Bool) : cleanL (st5 cs s a b).tmps = true := by kernel_rfl

theorem size5 : ops5.size = 36 := by kernel_rfl
theorem dst5_all : ((List.range 36).all fun i => match (op5 i).dst with | some d => Nat.beq d (dst5 i) | none => false) = true := by kernel_rfl
theorem back5_all : ((List.range 36).all fun i => (op5 i).after.toList.all fun e => !(Region.binds .any e) || Nat.blt e.on i) = true := by kernel_rfl
def rd5 (k : Nat) : Option Nat := bif Nat.beq k 0 || Nat.beq k 3 || Nat.beq k 6 || Nat.beq k 13 || Nat.beq k 22 || Nat.beq k 25 || Nat.beq k 28 || Nat.beq k 31 then some 1 else
 bif Nat.beq k 10 then some 24 else bif Nat.beq k 17 then some 31 else bif Nat.beq k 20 then some 34 else none
theorem rd5_all : ((List.range 36).all fun k => match addrRead Tryz.prog (op5 k).op, rd5 k with
  | none, none => true
  | some (.tmp t), some t' => Nat.beq t t' && noLater ops5 k (.tmp t)
  | _, _ => false) = true := by kernel_rfl
theorem touch5_all : ((List.range 36).all fun i => match (op5 i).guard with
  | none => !(loud Tryz.prog (op5 i).op) || (match (op5 i).op with
   | .call { callee := .value (.func _), .. } => true
   | .buildSlice .. => true
   | _ => false)
  | some _ => false) = true := by kernel_rfl

theorem op_at {i : Nat} {o : Oper} (h : ops5[i]? = some o) : i < 36 ∧ o = op5 i := by
 have hi : i < ops5.size := (Array.getElem?_eq_some_iff.1 h).1
 refine ⟨by rw [size5] at hi; exact hi, ?_⟩
 have e : ops5.toList[i]? = some o := by rw [Array.getElem?_toList]; exact h
 unfold op5
 rw [List.getD_eq_getElem?_getD, e]; rfl
theorem op_get {i : Nat} (hi : i < 36) : ops5[i]? = some (op5 i) := by
 have h := Array.getElem?_eq_getElem (xs := ops5) (i := i) (by rw [size5]; exact hi)
 rw [h, ← (op_at h).2]
theorem dst_at {i : Nat} (hi : i < 36) : (op5 i).dst = some (dst5 i) := by
 have := List.all_eq_true.1 dst5_all i (by simp [hi])
 split at this
 ·rename_i d e; rw [e, Nat.eq_of_beq_eq_true this]
 ·cases this
theorem dst5_lt {i : Nat} (hi : i < 36) : dst5 i < 66 := by
 unfold dst5; cases Nat.beq i 35 <;> simp <;> omega
theorem dst5_inj {i j : Nat} (hi : i < 36) (hj : j < 36) (h : dst5 i = dst5 j) : i = j := by
 unfold dst5 at h
 cases h1 : Nat.beq i 35 with
 | true =>
  have e1 := Nat.eq_of_beq_eq_true h1
  cases h2 : Nat.beq j 35 with
  | true => have e2 := Nat.eq_of_beq_eq_true h2; omega
  | false => rw [h1, h2] at h; simp at h; omega
 | false =>
  cases h2 : Nat.beq j 35 with
  | true => rw [h1, h2] at h; simp at h; omega
  | false => rw [h1, h2] at h; simp at h; omega

section
variable {cs : List (List SV)} {s a : Int} {b : Bool} {F : Nat → FaD}

theorem dep5 {listed : Array Bool} {i : Nat} {st : St} (R : Ready ops5 (st5 cs s a b) (val5 cs s a F) listed i (op5 i) st) (j : Nat) (hj : j < 36) (he : dirEdge j (op5 i) = true) : lget st.tmps (dst5 j) = val5 cs s a F j :=
 R.dep j (op5 j) (dst5 j) he (op_get hj) (dst_at hj)
theorem out5 {listed : Array Bool} {i : Nat} {st : St} (R : Ready ops5 (st5 cs s a b) (val5 cs s a F) listed i (op5 i) st) (k : Nat) (hk : k < 15) (h6 : k ≠ 6) : lget st.tmps k = lget (st5 cs s a b).tmps k := by
 refine R.out k fun j p hp e => ?_
 obtain ⟨hj, rfl⟩ := op_at hp
 rw [dst_at hj] at e
 have e : dst5 j = k := Option.some.inj e
 unfold dst5 at e
 cases h1 : Nat.beq j 35 with
 | true => rw [h1] at e; exact h6 e.symm
 | false => rw [h1] at e; simp at e; omega
theorem any5 {listed : Array Bool} {i : Nat} {st : St} (R : Ready ops5 (st5 cs s a b) (val5 cs s a F) listed i (op5 i) st) : ∀ x ∈ st.tmps, cleanB x = true := by
 intro x hx
 obtain ⟨k, hk, rfl⟩ := List.getElem_of_mem hx
 have e : st.tmps[k] = lget st.tmps k := by rw [lget_eq, List.getElem?_eq_getElem hk]; rfl
 rw [e]
 rcases R.any k with h | ⟨j, h⟩
 ·rw [h]; exact cleanL_lget (st5_clean cs s a b) k
 ·rw [h]; exact cleanL_lget (vals5_clean cs s a F) j

theorem h5_0 {listed : Array Bool} {st : St} (R : Ready ops5 (st5 cs s a b) (val5 cs s a F) listed 0 (op5 0) st) (K : St → Prop) (h : K (st.put (op5 0).dst (val5 cs s a F 0))) : aop Tryz.prog SgT SvT ops5 (op5 0) st K := by
 rw [dst_at (by decide)] at h
 exact o5_0 cs s a F st R.objs R.len (out5 R 1 (by decide) (by decide)) K h
theorem h5_1 {listed : Array Bool} {st : St} (R : Ready ops5 (st5 cs s a b) (val5 cs s a F) listed 1 (op5 1) st) (K : St → Prop) (h : K (st.put (op5 1).dst (val5 cs s a F 1))) : aop Tryz.prog SgT SvT ops5 (op5 1) st K := by
 rw [dst_at (by decide)] at h
 exact o5_1 cs s a F st R.objs R.len (out5 R 4 (by decide) (by decide)) K h
theorem h5_2 {listed : Array Bool} {st : St} (R : Ready ops5 (st5 cs s a b) (val5 cs s a F) listed 2 (op5 2) st) (K : St → Prop) (hc : Ct Tryz.prog 58 {} [S (bA [102, 117, 115, 101, 98, 111, 120, 95, 98, 117, 99, 107, 101, 116, 95, 114, 111, 111, 109]), S (bA [84, 111, 107, 101, 110, 115, 32, 116, 104, 97, 116, 32, 97, 32, 98, 117, 99, 107, 101, 116, 32, 104, 111, 108, 100, 115, 46]), (SV.agg [SL 21 cs, I s, I a]), (SL 1 [[I 2], [I 3]]), .clo 59 []] (fun r => r = [(SV.agg (FaD.row (F 0)))])) (h : K (st.put (op5 2).dst (val5 cs s a F 2))) : aop Tryz.prog SgT SvT ops5 (op5 2) st K := by
 rw [dst_at (by decide)] at h
 exact o5_2 cs s a F st R.objs R.len (dep5 R 0 (by decide) (by kernel_rfl)) (dep5 R 1 (by decide) (by kernel_rfl)) K hc h
theorem h5_3 {listed : Array Bool} {st : St} (R : Ready ops5 (st5 cs s a b) (val5 cs s a F) listed 3 (op5 3) st) (K : St → Prop) (h : K (st.put (op5 3).dst (val5 cs s a F 3))) : aop Tryz.prog SgT SvT ops5 (op5 3) st K := by
 rw [dst_at (by decide)] at h
 exact o5_3 cs s a F st R.objs R.len (out5 R 1 (by decide) (by decide)) K h
theorem h5_4 {listed : Array Bool} {st : St} (R : Ready ops5 (st5 cs s a b) (val5 cs s a F) listed 4 (op5 4) st) (K : St → Prop) (h : K (st.put (op5 4).dst (val5 cs s a F 4))) : aop Tryz.prog SgT SvT ops5 (op5 4) st K := by
 rw [dst_at (by decide)] at h
 exact o5_4 cs s a F st R.objs R.len (out5 R 4 (by decide) (by decide)) K h
theorem h5_5 {listed : Array Bool} {st : St} (R : Ready ops5 (st5 cs s a b) (val5 cs s a F) listed 5 (op5 5) st) (K : St → Prop) (hc : Ct Tryz.prog 58 {} [S (bA [102, 117, 115, 101, 98, 111, 120, 95, 98, 117, 99, 107, 101, 116, 95, 116, 111, 107, 101, 110, 115]), S (bA [84, 111, 107, 101, 110, 115, 32, 116, 104, 97, 116, 32, 97, 32, 98, 117, 99, 107, 101, 116, 32, 104, 97, 115, 46]), (SV.agg [SL 21 cs, I s, I a]), (SL 1 [[I 2], [I 3]]), .clo 60 []] (fun r => r = [(SV.agg (FaD.row (F 1)))])) (h : K (st.put (op5 5).dst (val5 cs s a F 5))) : aop Tryz.prog SgT SvT ops5 (op5 5) st K := by
 rw [dst_at (by decide)] at h
 exact o5_5 cs s a F st R.objs R.len (dep5 R 3 (by decide) (by kernel_rfl)) (dep5 R 4 (by decide) (by kernel_rfl)) K hc h
theorem h5_6 {listed : Array Bool} {st : St} (R : Ready ops5 (st5 cs s a b) (val5 cs s a F) listed 6 (op5 6) st) (K : St → Prop) (h : K (st.put (op5 6).dst (val5 cs s a F 6))) : aop Tryz.prog SgT SvT ops5 (op5 6) st K := by
 rw [dst_at (by decide)] at h
 exact o5_6 cs s a F st R.objs R.len (out5 R 1 (by decide) (by decide)) K h
theorem h5_7 {listed : Array Bool} {st : St} (R : Ready ops5 (st5 cs s a b) (val5 cs s a F) listed 7 (op5 7) st) (K : St → Prop) (h : K (st.put (op5 7).dst (val5 cs s a F 7))) : aop Tryz.prog SgT SvT ops5 (op5 7) st K := by
 rw [dst_at (by decide)] at h
 exact o5_7 cs s a F st R.objs R.len  K (fun x hx => clean_kill (by decide) x (any5 R x hx)) (fun x hx => clean_frz x (any5 R x hx)) (fun x hx => clean_gd (any5 R x hx)) h
theorem h5_8 {listed : Array Bool} {st : St} (R : Ready ops5 (st5 cs s a b) (val5 cs s a F) listed 8 (op5 8) st) (K : St → Prop) (hc : Ct Tryz.prog 61 {} [S (bA [102, 117, 115, 101, 98, 111, 120, 95, 99, 97, 108, 108, 115, 95, 116, 111, 116, 97, 108]), S (bA [67, 97, 108, 108, 115, 32, 98, 121, 32, 119, 104, 97, 116, 32, 98, 101, 99, 97, 109, 101, 32, 111, 102, 32, 116, 104, 101, 109, 46]), (SV.agg [SL 21 cs, I s, I a]), I 1, S (bA [111, 117, 116, 99, 111, 109, 101]), (SL 1 [[S (bA [103, 111, 111, 100])], [S (bA [98, 97, 100])], [S (bA [108, 97, 116, 101])]])] (fun r => r = [(SV.agg (FaD.row (F 2)))])) (h : K (st.put (op5 8).dst (val5 cs s a F 8))) : aop Tryz.prog SgT SvT ops5 (op5 8) st K := by
 rw [dst_at (by decide)] at h
 exact o5_8 cs s a F st R.objs R.len (dep5 R 6 (by decide) (by kernel_rfl)) (dep5 R 7 (by decide) (by kernel_rfl)) K hc h
theorem h5_9 {listed : Array Bool} {st : St} (R : Ready ops5 (st5 cs s a b) (val5 cs s a F) listed 9 (op5 9) st) (K : St → Prop) (h : K (st.put (op5 9).dst (val5 cs s a F 9))) : aop Tryz.prog SgT SvT ops5 (op5 9) st K := by
 rw [dst_at (by decide)] at h
 exact o5_9 cs s a F st R.objs R.len (out5 R 1 (by decide) (by decide)) K h
theorem h5_10 {listed : Array Bool} {st : St} (R : Ready ops5 (st5 cs s a b) (val5 cs s a F) listed 10 (op5 10) st) (K : St → Prop) (h : K (st.put (op5 10).dst (val5 cs s a F 10))) : aop Tryz.prog SgT SvT ops5 (op5 10) st K := by
 rw [dst_at (by decide)] at h
 exact o5_10 cs s a F st R.objs R.len (dep5 R 9 (by decide) (by kernel_rfl)) K h
theorem h5_11 {listed : Array Bool} {st : St} (R : Ready ops5 (st5 cs s a b) (val5 cs s a F) listed 11 (op5 11) st) (K : St → Prop) (h : K (st.put (op5 11).dst (val5 cs s a F 11))) : aop Tryz.prog SgT SvT ops5 (op5 11) st K := by
 rw [dst_at (by decide)] at h
 exact o5_11 cs s a F st R.objs R.len (dep5 R 10 (by decide) (by kernel_rfl)) K h
theorem h5_12 {listed : Array Bool} {st : St} (R : Ready ops5 (st5 cs s a b) (val5 cs s a F) listed 12 (op5 12) st) (K : St → Prop) (hc : Ct Tryz.prog 62 {} [S (bA [102, 117, 115, 101, 98, 111, 120, 95, 99, 111, 109, 112, 111, 110, 101, 110, 116, 115]), S (bA [67, 111, 109, 112, 111, 110, 101, 110, 116, 115, 32, 116, 104, 97, 116, 32, 97, 114, 101, 32, 114, 101, 103, 105, 115, 116, 101, 114, 101, 100, 46]), I 2, I (rlen cs)] (fun r => r = [(SV.agg (FaD.row (F 3)))])) (h : K (st.put (op5 12).dst (val5 cs s a F 12))) : aop Tryz.prog SgT SvT ops5 (op5 12) st K := by
 rw [dst_at (by decide)] at h
 exact o5_12 cs s a F st R.objs R.len (dep5 R 11 (by decide) (by kernel_rfl)) K hc h
theorem h5_13 {listed : Array Bool} {st : St} (R : Ready ops5 (st5 cs s a b) (val5 cs s a F) listed 13 (op5 13) st) (K : St → Prop) (h : K (st.put (op5 13).dst (val5 cs s a F 13))) : aop Tryz.prog SgT SvT ops5 (op5 13) st K := by
 rw [dst_at (by decide)] at h
 exact o5_13 cs s a F st R.objs R.len (out5 R 1 (by decide) (by decide)) K h
theorem h5_14 {listed : Array Bool} {st : St} (R : Ready ops5 (st5 cs s a b) (val5 cs s a F) listed 14 (op5 14) st) (K : St → Prop) (h : K (st.put (op5 14).dst (val5 cs s a F 14))) : aop Tryz.prog SgT SvT ops5 (op5 14) st K := by
 rw [dst_at (by decide)] at h
 exact o5_14 cs s a F st R.objs R.len (out5 R 5 (by decide) (by decide)) K h
theorem h5_15 {listed : Array Bool} {st : St} (R : Ready ops5 (st5 cs s a b) (val5 cs s a F) listed 15 (op5 15) st) (K : St → Prop) (hc : Ct Tryz.prog 63 {} [S (bA [102, 117, 115, 101, 98, 111, 120, 95, 100, 117, 114, 97, 116, 105, 111, 110]), S (bA [84, 105, 99, 107, 115, 32, 116, 104, 97, 116, 32, 99, 97, 108, 108, 115, 32, 97, 110, 100, 32, 98, 97, 99, 107, 111, 102, 102, 115, 32, 116, 111, 111, 107, 46]), (SV.agg [SL 21 cs, I s, I a]), (SL 1 [[I 1], [I 3]])] (fun r => r = [(SV.agg (FaD.row (F 4)))])) (h : K (st.put (op5 15).dst (val5 cs s a F 15))) : aop Tryz.prog SgT SvT ops5 (op5 15) st K := by
 rw [dst_at (by decide)] at h
 exact o5_15 cs s a F st R.objs R.len (dep5 R 13 (by decide) (by kernel_rfl)) (dep5 R 14 (by decide) (by kernel_rfl)) K hc h
theorem h5_16 {listed : Array Bool} {st : St} (R : Ready ops5 (st5 cs s a b) (val5 cs s a F) listed 16 (op5 16) st) (K : St → Prop) (h : K (st.put (op5 16).dst (val5 cs s a F 16))) : aop Tryz.prog SgT SvT ops5 (op5 16) st K := by
 rw [dst_at (by decide)] at h
 exact o5_16 cs s a F st R.objs R.len (out5 R 1 (by decide) (by decide)) K h
theorem h5_17 {listed : Array Bool} {st : St} (R : Ready ops5 (st5 cs s a b) (val5 cs s a F) listed 17 (op5 17) st) (K : St → Prop) (h : K (st.put (op5 17).dst (val5 cs s a F 17))) : aop Tryz.prog SgT SvT ops5 (op5 17) st K := by
 rw [dst_at (by decide)] at h
 exact o5_17 cs s a F st R.objs R.len (dep5 R 16 (by decide) (by kernel_rfl)) K h
theorem h5_18 {listed : Array Bool} {st : St} (R : Ready ops5 (st5 cs s a b) (val5 cs s a F) listed 18 (op5 18) st) (K : St → Prop) (hc : Ct Tryz.prog 62 {} [S (bA [102, 117, 115, 101, 98, 111, 120, 95, 101, 118, 101, 110, 116, 115, 95, 116, 111, 116, 97, 108]), S (bA [69, 118, 101, 110, 116, 115, 32, 116, 104, 97, 116, 32, 119, 101, 114, 101, 32, 116, 111, 108, 100, 46]), I 1, I s] (fun r => r = [(SV.agg (FaD.row (F 5)))])) (h : K (st.put (op5 18).dst (val5 cs s a F 18))) : aop Tryz.prog SgT SvT ops5 (op5 18) st K := by
 rw [dst_at (by decide)] at h
 exact o5_18 cs s a F st R.objs R.len (dep5 R 17 (by decide) (by kernel_rfl)) K hc h
theorem h5_19 {listed : Array Bool} {st : St} (R : Ready ops5 (st5 cs s a b) (val5 cs s a F) listed 19 (op5 19) st) (K : St → Prop) (h : K (st.put (op5 19).dst (val5 cs s a F 19))) : aop Tryz.prog SgT SvT ops5 (op5 19) st K := by
 rw [dst_at (by decide)] at h
 exact o5_19 cs s a F st R.objs R.len (out5 R 1 (by decide) (by decide)) K h
theorem h5_20 {listed : Array Bool} {st : St} (R : Ready ops5 (st5 cs s a b) (val5 cs s a F) listed 20 (op5 20) st) (K : St → Prop) (h : K (st.put (op5 20).dst (val5 cs s a F 20))) : aop Tryz.prog SgT SvT ops5 (op5 20) st K := by
 rw [dst_at (by decide)] at h
 exact o5_20 cs s a F st R.objs R.len (dep5 R 19 (by decide) (by kernel_rfl)) K h
theorem h5_21 {listed : Array Bool} {st : St} (R : Ready ops5 (st5 cs s a b) (val5 cs s a F) listed 21 (op5 21) st) (K : St → Prop) (hc : Ct Tryz.prog 62 {} [S (bA [102, 117, 115, 101, 98, 111, 120, 95, 108, 97, 115, 116, 95, 116, 105, 109, 101]), S (bA [84, 105, 109, 101, 32, 111, 102, 32, 116, 104, 101, 32, 108, 97, 115, 116, 32, 101, 118, 101, 110, 116, 46]), I 2, I a] (fun r => r = [(SV.agg (FaD.row (F 6)))])) (h : K (st.put (op5 21).dst (val5 cs s a F 21))) : aop Tryz.prog SgT SvT ops5 (op5 21) st K := by
 rw [dst_at (by decide)] at h
 exact o5_21 cs s a F st R.objs R.len (dep5 R 20 (by decide) (by kernel_rfl)) K hc h
theorem h5_22 {listed : Array Bool} {st : St} (R : Ready ops5 (st5 cs s a b) (val5 cs s a F) listed 22 (op5 22) st) (K : St → Prop) (h : K (st.put (op5 22).dst (val5 cs s a F 22))) : aop Tryz.prog SgT SvT ops5 (op5 22) st K := by
 rw [dst_at (by decide)] at h
 exact o5_22 cs s a F st R.objs R.len (out5 R 1 (by decide) (by decide)) K h
theorem h5_23 {listed : Array Bool} {st : St} (R : Ready ops5 (st5 cs s a b) (val5 cs s a F) listed 23 (op5 23) st) (K : St → Prop) (h : K (st.put (op5 23).dst (val5 cs s a F 23))) : aop Tryz.prog SgT SvT ops5 (op5 23) st K := by
 rw [dst_at (by decide)] at h
 exact o5_23 cs s a F st R.objs R.len  K (fun x hx => clean_kill (by decide) x (any5 R x hx)) (fun x hx => clean_frz x (any5 R x hx)) (fun x hx => clean_gd (any5 R x hx)) h
theorem h5_24 {listed : Array Bool} {st : St} (R : Ready ops5 (st5 cs s a b) (val5 cs s a F) listed 24 (op5 24) st) (K : St → Prop) (hc : Ct Tryz.prog 61 {} [S (bA [102, 117, 115, 101, 98, 111, 120, 95, 108, 105, 109, 105, 116, 101, 100, 95, 116, 111, 116, 97, 108]), S (bA [68, 101, 99, 105, 115, 105, 111, 110, 115, 32, 111, 102, 32, 108, 105, 109, 105, 116, 101, 114, 115, 46]), (SV.agg [SL 21 cs, I s, I a]), I 2, S (bA [100, 101, 99, 105, 115, 105, 111, 110]), (SL 1 [[S (bA [97, 100, 109, 105, 116])], [S (bA [114, 101, 106, 101, 99, 116])], [S (bA [114, 101, 102, 105, 108, 108])]])] (fun r => r = [(SV.agg (FaD.row (F 7)))])) (h : K (st.put (op5 24).dst (val5 cs s a F 24))) : aop Tryz.prog SgT SvT ops5 (op5 24) st K := by
 rw [dst_at (by decide)] at h
 exact o5_24 cs s a F st R.objs R.len (dep5 R 22 (by decide) (by kernel_rfl)) (dep5 R 23 (by decide) (by kernel_rfl)) K hc h
theorem h5_25 {listed : Array Bool} {st : St} (R : Ready ops5 (st5 cs s a b) (val5 cs s a F) listed 25 (op5 25) st) (K : St → Prop) (h : K (st.put (op5 25).dst (val5 cs s a F 25))) : aop Tryz.prog SgT SvT ops5 (op5 25) st K := by
 rw [dst_at (by decide)] at h
 exact o5_25 cs s a F st R.objs R.len (out5 R 1 (by decide) (by decide)) K h
theorem h5_26 {listed : Array Bool} {st : St} (R : Ready ops5 (st5 cs s a b) (val5 cs s a F) listed 26 (op5 26) st) (K : St → Prop) (h : K (st.put (op5 26).dst (val5 cs s a F 26))) : aop Tryz.prog SgT SvT ops5 (op5 26) st K := by
 rw [dst_at (by decide)] at h
 exact o5_26 cs s a F st R.objs R.len (out5 R 5 (by decide) (by decide)) K h
theorem h5_27 {listed : Array Bool} {st : St} (R : Ready ops5 (st5 cs s a b) (val5 cs s a F) listed 27 (op5 27) st) (K : St → Prop) (hc : Ct Tryz.prog 58 {} [S (bA [102, 117, 115, 101, 98, 111, 120, 95, 109, 111, 100, 101]), S (bA [77, 111, 100, 101, 32, 111, 102, 32, 97, 32, 98, 114, 101, 97, 107, 101, 114, 44, 32, 111, 114, 32, 116, 104, 101, 32, 108, 97, 115, 116, 32, 97, 116, 116, 101, 109, 112, 116, 32, 111, 102, 32, 97, 32, 114, 101, 116, 114, 105, 101, 114, 46]), (SV.agg [SL 21 cs, I s, I a]), (SL 1 [[I 1], [I 3]]), .clo 64 []] (fun r => r = [(SV.agg (FaD.row (F 8)))])) (h : K (st.put (op5 27).dst (val5 cs s a F 27))) : aop Tryz.prog SgT SvT ops5 (op5 27) st K := by
 rw [dst_at (by decide)] at h
 exact o5_27 cs s a F st R.objs R.len (dep5 R 25 (by decide) (by kernel_rfl)) (dep5 R 26 (by decide) (by kernel_rfl)) K hc h
theorem h5_28 {listed : Array Bool} {st : St} (R : Ready ops5 (st5 cs s a b) (val5 cs s a F) listed 28 (op5 28) st) (K : St → Prop) (h : K (st.put (op5 28).dst (val5 cs s a F 28))) : aop Tryz.prog SgT SvT ops5 (op5 28) st K := by
 rw [dst_at (by decide)] at h
 exact o5_28 cs s a F st R.objs R.len (out5 R 1 (by decide) (by decide)) K h
theorem h5_29 {listed : Array Bool} {st : St} (R : Ready ops5 (st5 cs s a b) (val5 cs s a F) listed 29 (op5 29) st) (K : St → Prop) (h : K (st.put (op5 29).dst (val5 cs s a F 29))) : aop Tryz.prog SgT SvT ops5 (op5 29) st K := by
 rw [dst_at (by decide)] at h
 exact o5_29 cs s a F st R.objs R.len  K (fun x hx => clean_kill (by decide) x (any5 R x hx)) (fun x hx => clean_frz x (any5 R x hx)) (fun x hx => clean_gd (any5 R x hx)) h
theorem h5_30 {listed : Array Bool} {st : St} (R : Ready ops5 (st5 cs s a b) (val5 cs s a F) listed 30 (op5 30) st) (K : St → Prop) (hc : Ct Tryz.prog 61 {} [S (bA [102, 117, 115, 101, 98, 111, 120, 95, 114, 101, 116, 114, 105, 101, 115, 95, 116, 111, 116, 97, 108]), S (bA [83, 116, 101, 112, 115, 32, 111, 102, 32, 114, 101, 116, 114, 105, 101, 114, 115, 46]), (SV.agg [SL 21 cs, I s, I a]), I 3, S (bA [115, 116, 101, 112]), (SL 1 [[S (bA [97, 116, 116, 101, 109, 112, 116])], [S (bA [98, 97, 99, 107, 111, 102, 102])], [S (bA [103, 105, 118, 101, 117, 112])]])] (fun r => r = [(SV.agg (FaD.row (F 9)))])) (h : K (st.put (op5 30).dst (val5 cs s a F 30))) : aop Tryz.prog SgT SvT ops5 (op5 30) st K := by
 rw [dst_at (by decide)] at h
 exact o5_30 cs s a F st R.objs R.len (dep5 R 28 (by decide) (by kernel_rfl)) (dep5 R 29 (by decide) (by kernel_rfl)) K hc h
theorem h5_31 {listed : Array Bool} {st : St} (R : Ready ops5 (st5 cs s a b) (val5 cs s a F) listed 31 (op5 31) st) (K : St → Prop) (h : K (st.put (op5 31).dst (val5 cs s a F 31))) : aop Tryz.prog SgT SvT ops5 (op5 31) st K := by
 rw [dst_at (by decide)] at h
 exact o5_31 cs s a F st R.objs R.len (out5 R 1 (by decide) (by decide)) K h
theorem h5_32 {listed : Array Bool} {st : St} (R : Ready ops5 (st5 cs s a b) (val5 cs s a F) listed 32 (op5 32) st) (K : St → Prop) (h : K (st.put (op5 32).dst (val5 cs s a F 32))) : aop Tryz.prog SgT SvT ops5 (op5 32) st K := by
 rw [dst_at (by decide)] at h
 exact o5_32 cs s a F st R.objs R.len  K (fun x hx => clean_kill (by decide) x (any5 R x hx)) (fun x hx => clean_frz x (any5 R x hx)) (fun x hx => clean_gd (any5 R x hx)) h
theorem h5_33 {listed : Array Bool} {st : St} (R : Ready ops5 (st5 cs s a b) (val5 cs s a F) listed 33 (op5 33) st) (K : St → Prop) (hc : Ct Tryz.prog 58 {} [S (bA [102, 117, 115, 101, 98, 111, 120, 95, 119, 105, 110, 100, 111, 119, 95, 112, 97, 114, 116]), S (bA [84, 104, 111, 117, 115, 97, 110, 100, 116, 104, 115, 32, 111, 102, 32, 108, 97, 116, 101, 32, 99, 97, 108, 108, 115, 32, 116, 104, 97, 116, 32, 119, 101, 110, 116, 32, 119, 114, 111, 110, 103, 46]), (SV.agg [SL 21 cs, I s, I a]), (SL 1 [[I 1]]), .clo 65 []] (fun r => r = [(SV.agg (FaD.row (F 10)))])) (h : K (st.put (op5 33).dst (val5 cs s a F 33))) : aop Tryz.prog SgT SvT ops5 (op5 33) st K := by
 rw [dst_at (by decide)] at h
 exact o5_33 cs s a F st R.objs R.len (dep5 R 31 (by decide) (by kernel_rfl)) (dep5 R 32 (by decide) (by kernel_rfl)) K hc h
theorem h5_34 {listed : Array Bool} {st : St} (R : Ready ops5 (st5 cs s a b) (val5 cs s a F) listed 34 (op5 34) st) (K : St → Prop) (h : K (st.put (op5 34).dst (val5 cs s a F 34))) : aop Tryz.prog SgT SvT ops5 (op5 34) st K := by
 rw [dst_at (by decide)] at h
 exact o5_34 cs s a F st R.objs R.len (dep5 R 2 (by decide) (by kernel_rfl)) (dep5 R 5 (by decide) (by kernel_rfl)) (dep5 R 8 (by decide) (by kernel_rfl)) (dep5 R 12 (by decide) (by kernel_rfl)) (dep5 R 15 (by decide) (by kernel_rfl)) (dep5 R 18 (by decide) (by kernel_rfl)) (dep5 R 21 (by decide) (by kernel_rfl)) (dep5 R 24 (by decide) (by kernel_rfl)) (dep5 R 27 (by decide) (by kernel_rfl)) (dep5 R 30 (by decide) (by kernel_rfl)) (dep5 R 33 (by decide) (by kernel_rfl)) K (fun x hx => clean_kill (by decide) x (any5 R x hx)) (fun x hx => clean_frz x (any5 R x hx)) (fun x hx => clean_gd (any5 R x hx)) h
theorem h5_35 {listed : Array Bool} {st : St} (R : Ready ops5 (st5 cs s a b) (val5 cs s a F) listed 35 (op5 35) st) (K : St → Prop) (h : K (st.put (op5 35).dst (val5 cs s a F 35))) : aop Tryz.prog SgT SvT ops5 (op5 35) st K := by
 rw [dst_at (by decide)] at h
 exact o5_35 cs s a F st R.objs R.len (dep5 R 34 (by decide) (by kernel_rfl)) K h

theorem hop5
  (c2 : Ct Tryz.prog 58 {} [S (bA [102, 117, 115, 101, 98, 111, 120, 95, 98, 117, 99, 107, 101, 116, 95, 114, 111, 111, 109]), S (bA [84, 111, 107, 101, 110, 115, 32, 116, 104, 97, 116, 32, 97, 32, 98, 117, 99, 107, 101, 116, 32, 104, 111, 108, 100, 115, 46]), (SV.agg [SL 21 cs, I s, I a]), (SL 1 [[I 2], [I 3]]), .clo 59 []] (fun r => r = [(SV.agg (FaD.row (F 0)))]))
  (c5 : Ct Tryz.prog 58 {} [S (bA [102, 117, 115, 101, 98, 111, 120, 95, 98, 117, 99, 107, 101, 116, 95, 116, 111, 107, 101, 110, 115]), S (bA [84, 111, 107, 101, 110, 115, 32, 116, 104, 97, 116, 32, 97, 32, 98, 117, 99, 107, 101, 116, 32, 104, 97, 115, 46]), (SV.agg [SL 21 cs, I s, I a]), (SL 1 [[I 2], [I 3]]), .clo 60 []] (fun r => r = [(SV.agg (FaD.row (F 1)))]))
  (c8 : Ct Tryz.prog 61 {} [S (bA [102, 117, 115, 101, 98, 111, 120, 95, 99, 97, 108, 108, 115, 95, 116, 111, 116, 97, 108]), S (bA [67, 97, 108, 108, 115, 32, 98, 121, 32, 119, 104, 97, 116, 32, 98, 101, 99, 97, 109, 101, 32, 111, 102, 32, 116, 104, 101, 109, 46]), (SV.agg [SL 21 cs, I s, I a]), I 1, S (bA [111, 117, 116, 99, 111, 109, 101]), (SL 1 [[S (bA [103, 111, 111, 100])], [S (bA [98, 97, 100])], [S (bA [108, 97, 116, 101])]])] (fun r => r = [(SV.agg (FaD.row (F 2)))]))
  (c12 : Ct Tryz.prog 62 {} [S (bA [102, 117, 115, 101, 98, 111, 120, 95, 99, 111, 109, 112, 111, 110, 101, 110, 116, 115]), S (bA [67, 111, 109, 112, 111, 110, 101, 110, 116, 115, 32, 116, 104, 97, 116, 32, 97, 114, 101, 32, 114, 101, 103, 105, 115, 116, 101, 114, 101, 100, 46]), I 2, I (rlen cs)] (fun r => r = [(SV.agg (FaD.row (F 3)))]))
  (c15 : Ct Tryz.prog 63 {} [S (bA [102, 117, 115, 101, 98, 111, 120, 95, 100, 117, 114, 97, 116, 105, 111, 110]), S (bA [84, 105, 99, 107, 115, 32, 116, 104, 97, 116, 32, 99, 97, 108, 108, 115, 32, 97, 110, 100, 32, 98, 97, 99, 107, 111, 102, 102, 115, 32, 116, 111, 111, 107, 46]), (SV.agg [SL 21 cs, I s, I a]), (SL 1 [[I 1], [I 3]])] (fun r => r = [(SV.agg (FaD.row (F 4)))]))
  (c18 : Ct Tryz.prog 62 {} [S (bA [102, 117, 115, 101, 98, 111, 120, 95, 101, 118, 101, 110, 116, 115, 95, 116, 111, 116, 97, 108]), S (bA [69, 118, 101, 110, 116, 115, 32, 116, 104, 97, 116, 32, 119, 101, 114, 101, 32, 116, 111, 108, 100, 46]), I 1, I s] (fun r => r = [(SV.agg (FaD.row (F 5)))]))
  (c21 : Ct Tryz.prog 62 {} [S (bA [102, 117, 115, 101, 98, 111, 120, 95, 108, 97, 115, 116, 95, 116, 105, 109, 101]), S (bA [84, 105, 109, 101, 32, 111, 102, 32, 116, 104, 101, 32, 108, 97, 115, 116, 32, 101, 118, 101, 110, 116, 46]), I 2, I a] (fun r => r = [(SV.agg (FaD.row (F 6)))]))
  (c24 : Ct Tryz.prog 61 {} [S (bA [102, 117, 115, 101, 98, 111, 120, 95, 108, 105, 109, 105, 116, 101, 100, 95, 116, 111, 116, 97, 108]), S (bA [68, 101, 99, 105, 115, 105, 111, 110, 115, 32, 111, 102, 32, 108, 105, 109, 105, 116, 101, 114, 115, 46]), (SV.agg [SL 21 cs, I s, I a]), I 2, S (bA [100, 101, 99, 105, 115, 105, 111, 110]), (SL 1 [[S (bA [97, 100, 109, 105, 116])], [S (bA [114, 101, 106, 101, 99, 116])], [S (bA [114, 101, 102, 105, 108, 108])]])] (fun r => r = [(SV.agg (FaD.row (F 7)))]))
  (c27 : Ct Tryz.prog 58 {} [S (bA [102, 117, 115, 101, 98, 111, 120, 95, 109, 111, 100, 101]), S (bA [77, 111, 100, 101, 32, 111, 102, 32, 97, 32, 98, 114, 101, 97, 107, 101, 114, 44, 32, 111, 114, 32, 116, 104, 101, 32, 108, 97, 115, 116, 32, 97, 116, 116, 101, 109, 112, 116, 32, 111, 102, 32, 97, 32, 114, 101, 116, 114, 105, 101, 114, 46]), (SV.agg [SL 21 cs, I s, I a]), (SL 1 [[I 1], [I 3]]), .clo 64 []] (fun r => r = [(SV.agg (FaD.row (F 8)))]))
  (c30 : Ct Tryz.prog 61 {} [S (bA [102, 117, 115, 101, 98, 111, 120, 95, 114, 101, 116, 114, 105, 101, 115, 95, 116, 111, 116, 97, 108]), S (bA [83, 116, 101, 112, 115, 32, 111, 102, 32, 114, 101, 116, 114, 105, 101, 114, 115, 46]), (SV.agg [SL 21 cs, I s, I a]), I 3, S (bA [115, 116, 101, 112]), (SL 1 [[S (bA [97, 116, 116, 101, 109, 112, 116])], [S (bA [98, 97, 99, 107, 111, 102, 102])], [S (bA [103, 105, 118, 101, 117, 112])]])] (fun r => r = [(SV.agg (FaD.row (F 9)))]))
  (c33 : Ct Tryz.prog 58 {} [S (bA [102, 117, 115, 101, 98, 111, 120, 95, 119, 105, 110, 100, 111, 119, 95, 112, 97, 114, 116]), S (bA [84, 104, 111, 117, 115, 97, 110, 100, 116, 104, 115, 32, 111, 102, 32, 108, 97, 116, 101, 32, 99, 97, 108, 108, 115, 32, 116, 104, 97, 116, 32, 119, 101, 110, 116, 32, 119, 114, 111, 110, 103, 46]), (SV.agg [SL 21 cs, I s, I a]), (SL 1 [[I 1]]), .clo 65 []] (fun r => r = [(SV.agg (FaD.row (F 10)))]))
  (i : Nat) (o : Oper) (listed : Array Bool) (st : St) (ho : ops5[i]? = some o) (R : Ready ops5 (st5 cs s a b) (val5 cs s a F) listed i o st) (K : St → Prop) (h : K (st.put o.dst (val5 cs s a F i))) : aop Tryz.prog SgT SvT ops5 o st K := by
 obtain ⟨hi, rfl⟩ := op_at ho
 match i, hi with
 | 0, _ => exact h5_0 R K h
 | 1, _ => exact h5_1 R K h
 | 2, _ => exact h5_2 R K c2 h
 | 3, _ => exact h5_3 R K h
 | 4, _ => exact h5_4 R K h
 | 5, _ => exact h5_5 R K c5 h
 | 6, _ => exact h5_6 R K h
 | 7, _ => exact h5_7 R K h
 | 8, _ => exact h5_8 R K c8 h
 | 9, _ => exact h5_9 R K h
 | 10, _ => exact h5_10 R K h
 | 11, _ => exact h5_11 R K h
 | 12, _ => exact h5_12 R K c12 h
 | 13, _ => exact h5_13 R K h
 | 14, _ => exact h5_14 R K h
 | 15, _ => exact h5_15 R K c15 h
 | 16, _ => exact h5_16 R K h
 | 17, _ => exact h5_17 R K h
 | 18, _ => exact h5_18 R K c18 h
 | 19, _ => exact h5_19 R K h
 | 20, _ => exact h5_20 R K h
 | 21, _ => exact h5_21 R K c21 h
 | 22, _ => exact h5_22 R K h
 | 23, _ => exact h5_23 R K h
 | 24, _ => exact h5_24 R K c24 h
 | 25, _ => exact h5_25 R K h
 | 26, _ => exact h5_26 R K h
 | 27, _ => exact h5_27 R K c27 h
 | 28, _ => exact h5_28 R K h
 | 29, _ => exact h5_29 R K h
 | 30, _ => exact h5_30 R K c30 h
 | 31, _ => exact h5_31 R K h
 | 32, _ => exact h5_32 R K h
 | 33, _ => exact h5_33 R K c33 h
 | 34, _ => exact h5_34 R K h
 | 35, _ => exact h5_35 R K h
 | n + 36, hn => omega

theorem touchArgs_nil (objs : List (Nat × Ob)) : ∀ (l : List SV) (i : Nat), touchArgs objs [] i l = []
 | [], _ => rfl
 | c :: cs, i => touchArgs_nil objs cs (i + 1)

theorem hapart5 (i : Nat) (o : Oper) (listed : Array Bool) (st : St) (ho : ops5[i]? = some o) (Fd : Filled ops5 (st5 cs s a b) (val5 cs s a F) listed st) (hl : loud Tryz.prog o.op = true) : apartW Tryz.prog SgT SvT ops5 listed st i o = true := by
 obtain ⟨hi, rfl⟩ := op_at ho
 have ht : touchG SgT SvT ops5 st (op5 i) = some [] := by
  have := List.all_eq_true.1 touch5_all i (by simp [hi])
  unfold touchG
  split at this
  ·rename_i hg
   rw [hl, Bool.not_true, Bool.false_or] at this
   rw [hg]
   split at this
   ·rename_i f args _ _ e
    simp only
    unfold touch
    rw [e]
    exact congrArg some (touchArgs_nil _ _ _)
   ·rename_i e
    simp only
    unfold touch
    rw [e]
   ·cases this
  ·cases this
 unfold apartW
 rw [ht]
 show (List.all [] _ && (List.range ops5.size).all _) = true
 rw [List.all_nil, Bool.true_and, size5]
 refine List.all_eq_true.2 fun k hk => ?_
 have hk : k < 36 := by simpa using hk
 rw [op_get hk]
 show (Nat.beq k i || !(listed.getD k false) || dirEdge k (op5 i) || _) = true
 cases hlk : listed.getD k false with
 | false => simp
 | true =>
  have := List.all_eq_true.1 rd5_all k (by simp [hk])
  split at this
  ·rename_i e1 _; rw [e1]; simp
  ·rename_i t t' e1 e2
   simp only [Bool.and_eq_true] at this
   obtain ⟨h1, h2⟩ := this
   have h1 : t = t' := Nat.eq_of_beq_eq_true h1
   subst h1
   rw [e1]
   have fill : ∀ j, j < 36 → listed.getD j false = true → lget st.tmps (dst5 j) = val5 cs s a F j := fun j hj h => Fd.full j (op5 j) (dst5 j) (op_get hj) h (dst_at hj)
   have dep : ∀ j e, e ∈ (op5 k).after.toList → e.on = j → Region.binds .any e = true → listed.getD j false = true := fun j e he hj hb => by subst hj; exact Fd.closed k (op5 k) (op_get hk) hlk e he hb
   have edge : ∀ j, dirEdge j (op5 k) = true → listed.getD j false = true := fun j h => by
    unfold dirEdge at h
    obtain ⟨e, hm, h⟩ := List.any_eq_true.1 h
    simp only [Bool.and_eq_true] at h
    exact dep j e hm (Nat.eq_of_beq_eq_true h.2) h.1
   have hp : ∃ off, lget st.tmps t = .ptr 128 off := by
    unfold rd5 at e2
    cases b1 : (Nat.beq k 0 || Nat.beq k 3 || Nat.beq k 6 || Nat.beq k 13 || Nat.beq k 22 || Nat.beq k 25 || Nat.beq k 28 || Nat.beq k 31) with
    | true =>
     rw [b1, cond_true] at e2; cases e2
     refine ⟨0, ?_⟩
     rw [Fd.rest 1 fun j p hp _ e => ?_]
     ·rfl
     ·obtain ⟨hj, rfl⟩ := op_at hp
      rw [dst_at hj] at e
      have e : dst5 j = 1 := Option.some.inj e
      unfold dst5 at e
      cases h1 : Nat.beq j 35 with
      | true => rw [h1] at e; cases e
      | false => rw [h1] at e; simp at e; omega
    | false =>
     rw [b1, cond_false] at e2
     cases b2 : Nat.beq k 10 with
     | true =>
      rw [b2, cond_true] at e2; cases e2
      have := Nat.eq_of_beq_eq_true b2
      subst this
      exact ⟨0, fill 9 (by decide) (edge 9 (by kernel_rfl))⟩
     | false =>
      rw [b2, cond_false] at e2
      cases b3 : Nat.beq k 17 with
      | true =>
       rw [b3, cond_true] at e2; cases e2
       have := Nat.eq_of_beq_eq_true b3
       subst this
       exact ⟨1, fill 16 (by decide) (edge 16 (by kernel_rfl))⟩
      | false =>
       rw [b3, cond_false] at e2
       cases b4 : Nat.beq k 20 with
       | true =>
        rw [b4, cond_true] at e2; cases e2
        have := Nat.eq_of_beq_eq_true b4
        subst this
        exact ⟨2, fill 19 (by decide) (edge 19 (by kernel_rfl))⟩
       | false => rw [b4, cond_false] at e2; cases e2
   obtain ⟨off, hp⟩ := hp
   have ha : okAddr st.objs [] (ev st (.tmp t)) = true := by
    show okAddr st.objs [] (lget st.tmps t) = true
    rw [hp, Fd.objs]; rfl
   show (_ || _ || _ || ((okAddr st.objs [] (ev st (.tmp t)) || _) && noLater ops5 k (.tmp t))) = true
   rw [ha, h2]; simp
  ·cases this

structure Hold (A : Prop) : Prop where
 out : A

def st5F (cs : List (List SV)) (s a : Int) (b : Bool) (F : Nat → FaD) : St := St.mk [(SV.agg [SL 21 cs, I s, I a]), (SV.ptr 128 0), (SV.slice 4 [] 1), (I 0), (SL 1 [[I 2], [I 3]]), (SL 1 [[I 1], [I 3]]), (SL 4 [FaD.row (F 0), FaD.row (F 1), FaD.row (F 2), FaD.row (F 3), FaD.row (F 4), FaD.row (F 5), FaD.row (F 6), FaD.row (F 7), FaD.row (F 8), FaD.row (F 9), FaD.row (F 10)]), SV.unk, SV.unk, SV.unk, (SV.agg [SL 21 cs, I s, I a]), (B b), (B (bnot b)), (SL 1 [[I 2], [I 3]]), (SL 1 [[I 1], [I 3]]), (SV.agg [SL 21 cs, I s, I a]), (SL 1 [[I 2], [I 3]]), (SV.agg (FaD.row (F 0))), (SV.agg [SL 21 cs, I s, I a]), (SL 1 [[I 2], [I 3]]), (SV.agg (FaD.row (F 1))), (SV.agg [SL 21 cs, I s, I a]), (SL 1 [[S (bA [103, 111, 111, 100])], [S (bA [98, 97, 100])], [S (bA [108, 97, 116, 101])]]), (SV.agg (FaD.row (F 2))), (SV.ptr 128 0), (SL 21 cs), (I (rlen cs)), (SV.agg (FaD.row (F 3))), (SV.agg [SL 21 cs, I s, I a]), (SL 1 [[I 1], [I 3]]), (SV.agg (FaD.row (F 4))), (SV.ptr 128 1), (I s), (SV.agg (FaD.row (F 5))), (SV.ptr 128 2), (I a), (SV.agg (FaD.row (F 6))), (SV.agg [SL 21 cs, I s, I a]), (SL 1 [[S (bA [97, 100, 109, 105, 116])], [S (bA [114, 101, 106, 101, 99, 116])], [S (bA [114, 101, 102, 105, 108, 108])]]), (SV.agg (FaD.row (F 7))), (SV.agg [SL 21 cs, I s, I a]), (SL 1 [[I 1], [I 3]]), (SV.agg (FaD.row (F 8))), (SV.agg [SL 21 cs, I s, I a]), (SL 1 [[S (bA [97, 116, 116, 101, 109, 112, 116])], [S (bA [98, 97, 99, 107, 111, 102, 102])], [S (bA [103, 105, 118, 101, 117, 112])]]), (SV.agg (FaD.row (F 9))), (SV.agg [SL 21 cs, I s, I a]), (SL 1 [[I 1]]), (SV.agg (FaD.row (F 10))), (SL 4 [FaD.row (F 0), FaD.row (F 1), FaD.row (F 2), FaD.row (F 3), FaD.row (F 4), FaD.row (F 5), FaD.row (F 6), FaD.row (F 7), FaD.row (F 8), FaD.row (F 9), FaD.row (F 10)]), SV.unk, SV.unk, SV.unk, SV.unk, SV.unk, SV.unk, SV.unk, SV.unk, SV.unk, SV.unk, SV.unk, SV.unk, SV.unk, SV.unk, SV.unk, SV.unk] (objs5 cs s a)

theorem any_region
  (c2 : Ct Tryz.prog 58 {} [S (bA [102, 117, 115, 101, 98, 111, 120, 95, 98, 117, 99, 107, 101, 116, 95, 114, 111, 111, 109]), S (bA [84, 111, 107, 101, 110, 115, 32, 116, 104, 97, 116, 32, 97, 32, 98, 117, 99, 107, 101, 116, 32, 104, 111, 108, 100, 115, 46]), (SV.agg [SL 21 cs, I s, I a]), (SL 1 [[I 2], [I 3]]), .clo 59 []] (fun r => r = [(SV.agg (FaD.row (F 0)))]))
  (c5 : Ct Tryz.prog 58 {} [S (bA [102, 117, 115, 101, 98, 111, 120, 95, 98, 117, 99, 107, 101, 116, 95, 116, 111, 107, 101, 110, 115]), S (bA [84, 111, 107, 101, 110, 115, 32, 116, 104, 97, 116, 32, 97, 32, 98, 117, 99, 107, 101, 116, 32, 104, 97, 115, 46]), (SV.agg [SL 21 cs, I s, I a]), (SL 1 [[I 2], [I 3]]), .clo 60 []] (fun r => r = [(SV.agg (FaD.row (F 1)))]))
  (c8 : Ct Tryz.prog 61 {} [S (bA [102, 117, 115, 101, 98, 111, 120, 95, 99, 97, 108, 108, 115, 95, 116, 111, 116, 97, 108]), S (bA [67, 97, 108, 108, 115, 32, 98, 121, 32, 119, 104, 97, 116, 32, 98, 101, 99, 97, 109, 101, 32, 111, 102, 32, 116, 104, 101, 109, 46]), (SV.agg [SL 21 cs, I s, I a]), I 1, S (bA [111, 117, 116, 99, 111, 109, 101]), (SL 1 [[S (bA [103, 111, 111, 100])], [S (bA [98, 97, 100])], [S (bA [108, 97, 116, 101])]])] (fun r => r = [(SV.agg (FaD.row (F 2)))]))
  (c12 : Ct Tryz.prog 62 {} [S (bA [102, 117, 115, 101, 98, 111, 120, 95, 99, 111, 109, 112, 111, 110, 101, 110, 116, 115]), S (bA [67, 111, 109, 112, 111, 110, 101, 110, 116, 115, 32, 116, 104, 97, 116, 32, 97, 114, 101, 32, 114, 101, 103, 105, 115, 116, 101, 114, 101, 100, 46]), I 2, I (rlen cs)] (fun r => r = [(SV.agg (FaD.row (F 3)))]))
  (c15 : Ct Tryz.prog 63 {} [S (bA [102, 117, 115, 101, 98, 111, 120, 95, 100, 117, 114, 97, 116, 105, 111, 110]), S (bA [84, 105, 99, 107, 115, 32, 116, 104, 97, 116, 32, 99, 97, 108, 108, 115, 32, 97, 110, 100, 32, 98, 97, 99, 107, 111, 102, 102, 115, 32, 116, 111, 111, 107, 46]), (SV.agg [SL 21 cs, I s, I a]), (SL 1 [[I 1], [I 3]])] (fun r => r = [(SV.agg (FaD.row (F 4)))]))
  (c18 : Ct Tryz.prog 62 {} [S (bA [102, 117, 115, 101, 98, 111, 120, 95, 101, 118, 101, 110, 116, 115, 95, 116, 111, 116, 97, 108]), S (bA [69, 118, 101, 110, 116, 115, 32, 116, 104, 97, 116, 32, 119, 101, 114, 101, 32, 116, 111, 108, 100, 46]), I 1, I s] (fun r => r = [(SV.agg (FaD.row (F 5)))]))
  (c21 : Ct Tryz.prog 62 {} [S (bA [102, 117, 115, 101, 98, 111, 120, 95, 108, 97, 115, 116, 95, 116, 105, 109, 101]), S (bA [84, 105, 109, 101, 32, 111, 102, 32, 116, 104, 101, 32, 108, 97, 115, 116, 32, 101, 118, 101, 110, 116, 46]), I 2, I a] (fun r => r = [(SV.agg (FaD.row (F 6)))]))
  (c24 : Ct Tryz.prog 61 {} [S (bA [102, 117, 115, 101, 98, 111, 120, 95, 108, 105, 109, 105, 116, 101, 100, 95, 116, 111, 116, 97, 108]), S (bA [68, 101, 99, 105, 115, 105, 111, 110, 115, 32, 111, 102, 32, 108, 105, 109, 105, 116, 101, 114, 115, 46]), (SV.agg [SL 21 cs, I s, I a]), I 2, S (bA [100, 101, 99, 105, 115, 105, 111, 110]), (SL 1 [[S (bA [97, 100, 109, 105, 116])], [S (bA [114, 101, 106, 101, 99, 116])], [S (bA [114, 101, 102, 105, 108, 108])]])] (fun r => r = [(SV.agg (FaD.row (F 7)))]))
  (c27 : Ct Tryz.prog 58 {} [S (bA [102, 117, 115, 101, 98, 111, 120, 95, 109, 111, 100, 101]), S (bA [77, 111, 100, 101, 32, 111, 102, 32, 97, 32, 98, 114, 101, 97, 107, 101, 114, 44, 32, 111, 114, 32, 116, 104, 101, 32, 108, 97, 115, 116, 32, 97, 116, 116, 101, 109, 112, 116, 32, 111, 102, 32, 97, 32, 114, 101, 116, 114, 105, 101, 114, 46]), (SV.agg [SL 21 cs, I s, I a]), (SL 1 [[I 1], [I 3]]), .clo 64 []] (fun r => r = [(SV.agg (FaD.row (F 8)))]))
  (c30 : Ct Tryz.prog 61 {} [S (bA [102, 117, 115, 101, 98, 111, 120, 95, 114, 101, 116, 114, 105, 101, 115, 95, 116, 111, 116, 97, 108]), S (bA [83, 116, 101, 112, 115, 32, 111, 102, 32, 114, 101, 116, 114, 105, 101, 114, 115, 46]), (SV.agg [SL 21 cs, I s, I a]), I 3, S (bA [115, 116, 101, 112]), (SL 1 [[S (bA [97, 116, 116, 101, 109, 112, 116])], [S (bA [98, 97, 99, 107, 111, 102, 102])], [S (bA [103, 105, 118, 101, 117, 112])]])] (fun r => r = [(SV.agg (FaD.row (F 9)))]))
  (c33 : Ct Tryz.prog 58 {} [S (bA [102, 117, 115, 101, 98, 111, 120, 95, 119, 105, 110, 100, 111, 119, 95, 112, 97, 114, 116]), S (bA [84, 104, 111, 117, 115, 97, 110, 100, 116, 104, 115, 32, 111, 102, 32, 108, 97, 116, 101, 32, 99, 97, 108, 108, 115, 32, 116, 104, 97, 116, 32, 119, 101, 110, 116, 32, 119, 114, 111, 110, 103, 46]), (SV.agg [SL 21 cs, I s, I a]), (SL 1 [[I 1]]), .clo 65 []] (fun r => r = [(SV.agg (FaD.row (F 10)))]))
  (K : St → Prop) (h : Hold (K (st5F cs s a b F))) : vcAny Tryz.prog SgT SvT ops5 (ops5.size + 1) (Array.replicate ops5.size false) (st5 cs s a b) K := by
 refine vcAny_fill (val := val5 cs s a F) ?_ ?_ ?_ ?_ ?_ ?_ ?_ ?_
 ·intro i o ho
  obtain ⟨hi, rfl⟩ := op_at ho
  exact ⟨_, dst_at hi, dst5_lt hi⟩
 ·intro i j o p ho hp e
  obtain ⟨hi, rfl⟩ := op_at ho
  obtain ⟨hj, rfl⟩ := op_at hp
  rw [dst_at hi, dst_at hj] at e
  exact dst5_inj hi hj (Option.some.inj e)
 ·intro i o e ho he hb
  obtain ⟨hi, rfl⟩ := op_at ho
  have := List.all_eq_true.1 (List.all_eq_true.1 back5_all i (by simp [hi])) e he
  rw [hb, Bool.not_true, Bool.false_or] at this
  exact Nat.le_of_ble_eq_true this
 ·intro k t w v
  exact clean_gd (cleanL_lget (st5_clean cs s a b) k) t w v
 ·intro i t w v
  exact clean_gd (cleanL_lget (vals5_clean cs s a F) i) t w v
 ·intro i o listed st ho R K' hK
  exact hop5 c2 c5 c8 c12 c15 c18 c21 c24 c27 c30 c33 i o listed st ho R K' hK
 ·intro i o listed st ho Fd R hl
  exact hapart5 i o listed st ho Fd hl
 ·intro st hobj hlen hfull hrest
  have ft : ∀ i, i < 36 → lget st.tmps (dst5 i) = val5 cs s a F i := fun i hi => hfull i (op5 i) (dst5 i) (op_get hi) (dst_at hi)
  have rs : ∀ k, (k < 6 ∨ (6 < k ∧ k < 15) ∨ 49 < k) → lget st.tmps k = lget (st5 cs s a b).tmps k := fun k hk => hrest k fun i o ho e => by
   obtain ⟨hi, rfl⟩ := op_at ho
   rw [dst_at hi] at e
   have e : dst5 i = k := Option.some.inj e
   unfold dst5 at e
   cases h1 : Nat.beq i 35 with
   | true => rw [h1] at e; simp at e; omega
   | false => rw [h1] at e; simp at e; have : i ≠ 35 := fun h => by subst h; cases h1
              omega
  have e : st = st5F cs s a b F := by
   obtain ⟨tmps, objs⟩ := st
   have hobj : objs = objs5 cs s a := hobj
   subst hobj
   have e := eta66 (l := tmps) hlen
   rw [e]
   unfold st5F
   congr 1
   simp only [List.cons.injEq, and_true]
   refine ⟨rs 0 (by decide), rs 1 (by decide), rs 2 (by decide), rs 3 (by decide), rs 4 (by decide), rs 5 (by decide), ft 35 (by decide), rs 7 (by decide), rs 8 (by decide), rs 9 (by decide), rs 10 (by decide), rs 11 (by decide), rs 12 (by decide), rs 13 (by decide), rs 14 (by decide), ft 0 (by decide), ft 1 (by decide), ft 2 (by decide), ft 3 (by decide), ft 4 (by decide), ft 5 (by decide), ft 6 (by decide), ft 7 (by decide), ft 8 (by decide), ft 9 (by decide), ft 10 (by decide), ft 11 (by decide), ft 12 (by decide), ft 13 (by decide), ft 14 (by decide), ft 15 (by decide), ft 16 (by decide), ft 17 (by decide), ft 18 (by decide), ft 19 (by decide), ft 20 (by decide), ft 21 (by decide), ft 22 (by decide), ft 23 (by decide), ft 24 (by decide), ft 25 (by decide), ft 26 (by decide), ft 27 (by decide), ft 28 (by decide), ft 29 (by decide), ft 30 (by decide), ft 31 (by decide), ft 32 (by decide), ft 33 (by decide), ft 34 (by decide), rs 50 (by decide), rs 51 (by decide), rs 52 (by decide), rs 53 (by decide), rs 54 (by decide), rs 55 (by decide), rs 56 (by decide), rs 57 (by decide), rs 58 (by decide), rs 59 (by decide), rs 60 (by decide), rs 61 (by decide), rs 62 (by decide), rs 63 (by decide), rs 64 (by decide), rs 65 (by decide)⟩
  rw [e]; exact h.out

end

end Go.Proofs.YtknnooannohflaaGreatDoor.Met
