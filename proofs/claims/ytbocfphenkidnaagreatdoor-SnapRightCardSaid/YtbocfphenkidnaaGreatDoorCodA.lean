/- Layer 7: what the functions of packages names, wire and codec, and of their references, do with plain data: the conditions. -/
import Derived.Test.YtbocfphenkidnaaGreatDoorEvA
import Derived.RangeFuncLeaves
import Derived.RangeFuncWrites
import Derived.Shelf.Abstract
import Derived.WalkKit
import Derived.OwnWalkIn
import Derived.TacticsInMore
import Derived.LoopNIn
import Derived.LoopIn
import Derived.Test.YtbocfphenkidnaaGreatDoorProg
import Derived.Test.YtbocfphenkidnaaGreatDoorPxB
import Derived.Test.YtbocfphenkidnaaGreatDoorPxN
namespace Go.Proofs.YtbocfphenkidnaaGreatDoor.Cod
open Go Go.Px Go.Proofs
set_option maxRecDepth 100000
set_option linter.unusedVariables false

def SgT : FuncId → Sig := (fun f => bif Nat.beq f 110 then ⟨[], [.own]⟩ else bif Nat.beq f 115 then ⟨[], [.own]⟩ else bif Nat.beq f 54 then ⟨[], [.own]⟩ else bif Nat.beq f 118 then ⟨[], [.own]⟩ else bif Nat.beq f 181 then ⟨[], [.own]⟩ else bif Nat.beq f 185 then ⟨[], [.own]⟩ else bif Nat.beq f 137 then ⟨[], [.own]⟩ else {})
def SvT : TypeId → Sig := fun _ => {}
abbrev cx3 (s a : Int) (ns : List (List SV)) : SV := .agg [I s, I a, SL 1 ns]
abbrev cu3 (bs : List (List SV)) (a e : Int) : SV := .agg [SL 1 bs, I a, I e]

theorem cloneB_nf (rows : LL) (Q : List SV → Prop) (h : ∀ b, ((b = true) → rlen rows = 0) → ifB b (Q ([SL 1 []])) (((lsum (rlen []) (rlen rows)) ≤ ((2147483648 : Int))) ∧ (Q ([SL 1 (rapp [] rows)])))) : Ct Tryz.prog 137 ⟨[], [.own]⟩ [SL 1 rows] Q :=
 fn_of (f := 137) SgT SvT (fun _ => none) Tryz.f137 Tryz.func137 (by kernel_rfl) (by kernel_rfl) h

theorem putUint_nf (rows : LL) (n : Int) (Q : List SV → Prop) (h : Cl Tryz.prog 137 sO [SL 1 rows] (fun rs => ∃ l, (rs = [SL 1 l]) ∧ (∃ Inv : (LL) → Int → Prop, ∃ m : (LL) → Int → Nat, (Inv l n) ∧ (∀ l1 x, (Inv l1 x) → ifB (ige x 128) (((lsum (rlen l1) (rlen ([[U8 (wor .u8 (wcv .u8 x) 128)]]))) ≤ ((2147483648 : Int))) ∧ (((0 : Int) ≤ 7) ∧ (((Option.some [] : Option (LL)) = Option.some []) ∧ ((Inv (rapp l1 ([[U8 (wor .u8 (wcv .u8 x) 128)]])) (wshr .u64 x 7)) ∧ (Nat.le (Nat.succ (m (rapp l1 ([[U8 (wor .u8 (wcv .u8 x) 128)]])) (wshr .u64 x 7))) (m l1 x)))))) (((lsum (rlen l1) (rlen ([[U8 (wcv .u8 x)]]))) ≤ ((2147483648 : Int))) ∧ (Q ([SL 1 (rapp l1 ([[U8 (wcv .u8 x)]]))]))))))) : Ct Tryz.prog 110 ⟨[], [.own]⟩ [SL 1 rows, U64 n] Q :=
 fn_of (f := 110) SgT SvT (fun _ => none) Tryz.f110 Tryz.func110 (by kernel_rfl) (by kernel_rfl) h

theorem putText_nf (rows : LL) (t : ByteArray) (Q : List SV → Prop) (h : Cl Tryz.prog 110 sO [SL 1 rows, U64 (wcv .u64 (slen t))] (fun rs => ∃ l, (rs = [SL 1 l]) ∧ (((lsum (rlen l) (rlen (sbytes t))) ≤ ((2147483648 : Int))) ∧ (Q [SL 1 (rapp l (sbytes t))])))) : Ct Tryz.prog 115 ⟨[], [.own]⟩ [SL 1 rows, S t] Q :=
 fn_of (f := 115) SgT SvT (fun _ => none) Tryz.f115 Tryz.func115 (by kernel_rfl) (by kernel_rfl) h

theorem rputUint_nf (rows : LL) (n : Int) (Q : List SV → Prop) (h : ((lsum (rlen []) (rlen rows)) ≤ ((2147483648 : Int))) ∧ (∃ Inv : Int → (LL) → (LL) → Prop, ∃ m : Int → (LL) → (LL) → Nat, (Inv n [] (rapp [] rows)) ∧ (∀ x l l1, (Inv x l l1) → (((128 : Int) = 0) → False) ∧ ((((128 : Int) = 0) → False) ∧ (ifB (ieq (wquo .u64 x 128) 0) (((lsum (rlen l1) (rlen ([[U8 (wcv .u8 (wrem x 128))]]))) ≤ ((2147483648 : Int))) ∧ (Q ([SV.slice 1 (rapp l1 ([[U8 (wcv .u8 (wrem x 128))]])) 0]))) (((lsum (rlen l1) (rlen ([[U8 (wadd .u8 (wcv .u8 (wrem x 128)) 128)]]))) ≤ ((2147483648 : Int))) ∧ (((Option.some [] : Option (LL)) = Option.some []) ∧ ((Inv (wquo .u64 x 128) l (rapp l1 ([[U8 (wadd .u8 (wcv .u8 (wrem x 128)) 128)]]))) ∧ (Nat.le (Nat.succ (m (wquo .u64 x 128) l (rapp l1 ([[U8 (wadd .u8 (wcv .u8 (wrem x 128)) 128)]])))) (m x l l1)))))))))) : Ct Tryz.prog 54 ⟨[], [.own]⟩ [SL 1 rows, U64 n] Q :=
 fn_of (f := 54) SgT SvT (fun _ => none) Tryz.f54 Tryz.func54 (by kernel_rfl) (by kernel_rfl) h

theorem rputText_nf (rows : LL) (t : ByteArray) (Q : List SV → Prop) (h : Cl Tryz.prog 54 sO [SL 1 rows, U64 (wcv .u64 (slen t))] (fun rs => ∃ l, (rs = [SL 1 l]) ∧ (∃ Inv : (LL) → Int → Prop, ∃ m : (LL) → Int → Nat, (Inv l 0) ∧ (∀ l1 x, (Inv l1 x) → ifB (ilt x (slen t)) ((((0 : Int) ≤ x) ∧ (x < (slen t))) ∧ (((lsum (rlen l1) (rlen ([[U8 (sbyte t x)]]))) ≤ ((2147483648 : Int))) ∧ (((Option.some [] : Option (LL)) = Option.some []) ∧ ((Inv (rapp l1 ([[U8 (sbyte t x)]])) (wadd .i64 x 1)) ∧ (Nat.le (Nat.succ (m (rapp l1 ([[U8 (sbyte t x)]])) (wadd .i64 x 1))) (m l1 x)))))) (Q [SL 1 l1]))))) : Ct Tryz.prog 118 ⟨[], [.own]⟩ [SL 1 rows, S t] Q :=
 fn_of (f := 118) SgT SvT (fun _ => none) Tryz.f118 Tryz.func118 (by kernel_rfl) (by kernel_rfl) h

theorem rnamed_nf (t : ByteArray) (Q : List SV → Prop) (h : Q [B (bpick (igt (slen t) 0) (ilt (slen t) 25) false)]) : Ct Tryz.prog 106 {} [S t] Q :=
 fn_of (f := 106) SgT SvT (fun _ => none) Tryz.f106 Tryz.func106 (by kernel_rfl) (by kernel_rfl) h

theorem rplace_nf (rows : LL) (t : ByteArray) (Q : List SV → Prop) (h : ∃ Inv : Int → Int → Prop, ∃ m : Int → Int → Nat, (Inv 0 0) ∧ (∀ x x1, (Inv x x1) → ifB (ilt x1 (rlen rows)) ((((0 : Int) ≤ x1) ∧ (x1 < (rlen rows))) ∧ (∃ s, (rget rows x1 = [S s]) ∧ (ifB (seq s t) (Q [I (wadd .i64 x1 1)]) (((Option.some [] : Option (LL)) = Option.some []) ∧ ((Inv x (wadd .i64 x1 1)) ∧ (Nat.le (Nat.succ (m x (wadd .i64 x1 1))) (m x x1))))))) (Q [I 0]))) : Ct Tryz.prog 107 {} [SL 1 rows, S t] Q :=
 fn_of (f := 107) SgT SvT (fun _ => none) Tryz.f107 Tryz.func107 (by kernel_rfl) (by kernel_rfl) h

theorem rright_nf (rows : LL) (Q : List SV → Prop) (h : ∃ Inv : Bool → Int → Prop, ∃ m : Bool → Int → Nat, (Inv false 0) ∧ (∀ b x, (Inv b x) → ifB (ilt x (rlen rows)) (ifB (igt x 31) (Q [B false]) ((((0 : Int) ≤ x) ∧ (x < (rlen rows))) ∧ (∃ s, (rget rows x = [S s]) ∧ (Cl Tryz.prog 106 sP [S s] (fun rs => ∃ b1, (rs = [B b1]) ∧ (ifB (bpick false true (bnot b1)) (Q [B false]) ((((0 : Int) ≤ x) ∧ (x < (rlen rows))) ∧ (∃ s1, (rget rows x = [S s1]) ∧ (Cl Tryz.prog 107 sP [SL 1 rows, S s1] (fun rs1 => ∃ x1, (rs1 = [I x1]) ∧ (ifB (bpick false true (ine x1 (wadd .i64 x 1))) (Q [B false]) (((Option.some [] : Option (LL)) = Option.some []) ∧ ((Inv b (wadd .i64 x 1)) ∧ (Nat.le (Nat.succ (m b (wadd .i64 x 1))) (m b x))))))))))))))) (Q [B true]))) : Ct Tryz.prog 49 {} [SL 1 rows] Q :=
 fn_of (f := 49) SgT SvT (fun _ => none) Tryz.f49 Tryz.func49 (by kernel_rfl) (by kernel_rfl) h

theorem rput_nf (rows : LL) (t : ByteArray) (Q : List SV → Prop) (h : Cl Tryz.prog 49 sP [SL 1 rows] (fun rs => ∃ b, (rs = [B b]) ∧ (ifB (bnot b) (Q [SL 1 rows, I 1]) (Cl Tryz.prog 106 sP [S t] (fun rs1 => ∃ b1, (rs1 = [B b1]) ∧ (ifB (bnot b1) (Q [SL 1 rows, I 3]) (Cl Tryz.prog 107 sP [SL 1 rows, S t] (fun rs2 => ∃ x, (rs2 = [I x]) ∧ (ifB (igt x 0) (Q [SL 1 rows, I 7]) (ifB (ige (rlen rows) 32) (Q [SL 1 rows, I 9]) (((lsum (rlen []) (rlen rows)) ≤ ((2147483648 : Int))) ∧ (((lsum (rlen (rapp [] rows)) (rlen ([[S t]]))) ≤ ((2147483648 : Int))) ∧ (Q ([SL 1 (rapp (rapp [] rows) ([[S t]])), I 0])))))))))))))) : Ct Tryz.prog 187 {} [SL 1 rows, S t] Q :=
 fn_of (f := 187) SgT SvT (fun _ => none) Tryz.f187 Tryz.func187 (by kernel_rfl) (by kernel_rfl) h


theorem wrapU64 {a : Int} (h0 : 0 ≤ a) (h1 : a ≤ 18446744073709551615) : IntKind.u64.wrap a = a := by
 simp only [IntKind.wrap, IntKind.signed, IntKind.bits]
 simp
 omega
theorem wcvU64 {a : Int} (h0 : 0 ≤ a) (h1 : a ≤ 18446744073709551615) : wcv .u64 a = a := wrapU64 h0 h1
theorem wcvI64 {a : Int} (h0 : -9223372036854775808 ≤ a) (h1 : a ≤ 9223372036854775807) : wcv .i64 a = a := wrap_i64 h0 h1
theorem wcvU8 (a : Int) (h0 : 0 ≤ a) : wcv .u8 a = a % 256 := by
 simp only [wcv, IntKind.wrap, IntKind.signed, IntKind.bits]
 simp

theorem namB_eq (c : ByteArray) : nmB c = namB c := rfl

theorem clone_bR (rows : List (List SV)) (h : rows.length ≤ 2147483648) : Ct Tryz.prog 137 ⟨[], [.own]⟩ [SL 1 rows] (fun r => r = [SL 1 rows]) := by
 refine cloneB_nf _ _ (fun b hb => ifB_intro (fun e => ?_) (fun e => ⟨?_, ?_⟩))
 ·have := hb e
  have : rows = [] := by simpa using this
  rw [this]
 ·simp; omega
 ·simp [rapp]

theorem shr7 {x : Int} (h : 0 ≤ x) : wshr .u64 x 7 = x / 128 := by
 simp only [wshr, IntKind.bits]
 simp
 exact Int.fdiv_eq_ediv_of_nonneg _ (by omega)

theorem or128 {x : Int} (h0 : 0 ≤ x) : wor .u8 (wcv .u8 x) 128 = x % 128 + 128 := by
 rw [wcvU8 x h0]
 have h1 : 0 ≤ x % 256 := by omega
 have h2 : x % 256 < 256 := by omega
 have h3 : x % 128 = (x % 256) % 128 := by omega
 rw [h3]
 generalize x % 256 = y at h1 h2
 obtain ⟨n, rfl⟩ : ∃ n : Nat, y = n := ⟨y.toNat, by omega⟩
 have hn : n < 256 := by omega
 clear h0 h3 h1 h2
 revert n
 decide

theorem putUint_fn (l : List Int) (n : Int) (h0 : 0 ≤ n) (h1 : n ≤ 18446744073709551615) (hl : l.length ≤ 100000) : Ct Tryz.prog 110 ⟨[], [.own]⟩ [SL 1 (bR l), U64 n] (fun r => r = [SL 1 (bR (l ++ leb n.toNat))]) := by
 refine putUint_nf _ _ _ (Cl.of (clone_bR _ (by simp; omega)) ⟨_, rfl, ?_⟩)
 refine ⟨fun rows x => ∃ l1 : List Int, rows = bR l1 ∧ 0 ≤ x ∧ x ≤ n ∧ l1.length + (leb x.toNat).length = l.length + (leb n.toNat).length ∧ l1 ++ leb x.toNat = l ++ leb n.toNat, fun _ x => x.toNat, ⟨l, rfl, h0, by omega, rfl, rfl⟩, ?_⟩
 rintro rows x ⟨l1, rfl, hx, hxn, hlen, he⟩
 have hb : (leb n.toNat).length ≤ 10 := leb_len 9 _ (by
  have : n.toNat < 18446744073709551616 := by omega
  exact Nat.lt_of_lt_of_le this (by decide))
 have hp := leb_pos x.toNat
 refine ifB_intro (fun h => ?_) (fun h => ?_)
 ·simp at h
  have e := leb_ge (n := x.toNat) (by omega)
  have e2 : (x / 128).toNat = x.toNat / 128 := by omega
  refine ⟨by simp; omega, by omega, rfl, ?_, ?_⟩
  ·rw [or128 hx, shr7 hx]
   refine ⟨l1 ++ [x % 128 + 128], by simp [rapp], by omega, by omega, ?_, ?_⟩
   ·rw [e] at hlen; simp at hlen ⊢; rw [e2]; omega
   ·rw [← he, e, e2]
    have : ((x.toNat % 128 + 128 : Nat) : Int) = x % 128 + 128 := by omega
    rw [this]; simp
  ·rw [shr7 hx]
   exact mlt (by dsimp only; omega)
 ·simp at h
  have e := leb_lt (n := x.toNat) (by omega)
  have e3 : wcv .u8 x = x := by rw [wcvU8 x hx]; omega
  refine ⟨by simp; omega, ?_⟩
  rw [e3, ← he, e]
  have : ((x.toNat : Nat) : Int) = x := by omega
  simp [rapp, this]

theorem rputUint_fn (l : List Int) (n : Int) (h0 : 0 ≤ n) (h1 : n ≤ 18446744073709551615) (hl : l.length ≤ 100000) : Ct Tryz.prog 54 ⟨[], [.own]⟩ [SL 1 (bR l), U64 n] (fun r => r = [SL 1 (bR (l ++ leb n.toNat))]) := by
 refine rputUint_nf _ _ _ ⟨by simp; omega, ?_⟩
 refine ⟨fun x _ rows => ∃ l1 : List Int, rows = bR l1 ∧ 0 ≤ x ∧ x ≤ n ∧ l1.length + (leb x.toNat).length = l.length + (leb n.toNat).length ∧ l1 ++ leb x.toNat = l ++ leb n.toNat, fun x _ _ => x.toNat, ⟨l, by simp [rapp], h0, by omega, rfl, rfl⟩, ?_⟩
 rintro x _ rows ⟨l1, rfl, hx, hxn, hlen, he⟩
 have hb : (leb n.toNat).length ≤ 10 := leb_len 9 _ (by
  have : n.toNat < 18446744073709551616 := by omega
  exact Nat.lt_of_lt_of_le this (by decide))
 have hp := leb_pos x.toNat
 have q : wquo .u64 x 128 = x / 128 := by
  unfold wquo
  rw [Int.tdiv_eq_ediv_of_nonneg hx, wrapU64 (by omega) (by omega)]
 have r : wcv .u8 (wrem x 128) = x % 128 := by
  unfold wrem
  rw [Int.tmod_eq_emod_of_nonneg hx, wcvU8 _ (by omega)]; omega
 have s : wadd .u8 (x % 128) 128 = x % 128 + 128 := by
  have := wcvU8 (x % 128 + 128) (by omega)
  simp only [wcv] at this
  rw [wadd, this]; omega
 rw [q, r, s]
 refine ⟨by omega, by omega, ifB_intro (fun h => ?_) (fun h => ?_)⟩
 ·simp at h
  have e := leb_lt (n := x.toNat) (by omega)
  refine ⟨by simp; omega, ?_⟩
  rw [← he, e]
  have e4 : x % 128 = x := by omega
  have : ((x.toNat : Nat) : Int) = x := by omega
  simp [rapp, this, e4]
 ·simp at h
  have e := leb_ge (n := x.toNat) (by omega)
  have e2 : (x / 128).toNat = x.toNat / 128 := by omega
  refine ⟨by simp; omega, rfl, ⟨l1 ++ [x % 128 + 128], by simp [rapp], by omega, by omega, ?_, ?_⟩, mlt (by dsimp only; omega)⟩
  ·rw [e] at hlen; simp at hlen ⊢; rw [e2]; omega
  ·rw [← he, e, e2]
   have : ((x.toNat % 128 + 128 : Nat) : Int) = x % 128 + 128 := by omega
   rw [this]; simp

def txB (t : ByteArray) : List Int := t.data.toList.map fun b => (b.toNat : Int)
theorem sbytes_tx (t : ByteArray) : sbytes t = bR (txB t) := by
 simp only [sbytes, txB, bR, List.map_map]; rfl
theorem txB_len (t : ByteArray) : (txB t).length = t.size := by
 simp only [txB, List.length_map, Array.length_toList]; rfl
theorem txB_byte {t : ByteArray} : ∀ x ∈ txB t, 0 ≤ x ∧ x ≤ 255 := by
 intro x hx
 simp only [txB, List.mem_map] at hx
 obtain ⟨b, _, rfl⟩ := hx
 have := b.toNat_lt
 omega

theorem putText_fn (l : List Int) (t : ByteArray) (hl : l.length ≤ 100000 - 10) (ht : t.size ≤ 1000) : Ct Tryz.prog 115 ⟨[], [.own]⟩ [SL 1 (bR l), S t] (fun r => r = [SL 1 (bR (l ++ leb t.size ++ txB t))]) := by
 refine putText_nf _ _ _ ?_
 rw [slen_eq, wcvU64 (by omega) (by omega)]
 have hb : (leb t.size).length ≤ 2 := leb_len 1 _ (by omega)
 refine Cl.of (putUint_fn l t.size (by omega) (by omega) (by omega)) ⟨_, rfl, ?_, ?_⟩
 ·rw [sbytes_tx]; simp [txB_len]; omega
 ·rw [sbytes_tx]; simp [rapp]

theorem rputText_fn (l : List Int) (t : ByteArray) (hl : l.length ≤ 100000 - 10) (ht : t.size ≤ 1000) : Ct Tryz.prog 118 ⟨[], [.own]⟩ [SL 1 (bR l), S t] (fun r => r = [SL 1 (bR (l ++ leb t.size ++ txB t))]) := by
 refine rputText_nf _ _ _ ?_
 simp only [slen_eq]
 rw [wcvU64 (by omega) (by omega)]
 have hb : (leb t.size).length ≤ 2 := leb_len 1 _ (by omega)
 refine Cl.of (rputUint_fn l t.size (by omega) (by omega) (by omega)) ⟨_, rfl, ?_⟩
 refine ⟨fun rows x => 0 ≤ x ∧ x ≤ t.size ∧ rows = bR (l ++ leb t.size ++ (txB t).take x.toNat), fun _ x => (t.size - x).toNat, ⟨by omega, by omega, by simp⟩, ?_⟩
 rintro rows x ⟨h0, h1, rfl⟩
 refine ifB_intro (fun h => ?_) (fun h => ?_)
 ·simp at h
  have w : wadd IntKind.i64 x 1 = x + 1 := wadd_i64 (by omega) (by omega)
  rw [w]
  have e : (txB t).take (x + 1).toNat = (txB t).take x.toNat ++ [sbyte t x] := by
   rw [show (x + 1).toNat = x.toNat + 1 by omega, List.take_add_one]
   have hx : x.toNat < (txB t).length := by rw [txB_len]; omega
   rw [List.getElem?_eq_getElem hx]
   have hx2 : x.toNat < t.data.size := by have : t.size = t.data.size := rfl; omega
   simp [txB, sbyte, Array.getElem?_eq_getElem hx2]
  refine ⟨⟨h0, h⟩, ?_, by simp, ⟨by omega, by omega, ?_⟩, mlt (by dsimp only; omega)⟩
  ·simp [txB_len]; omega
  ·rw [e]; simp [rapp]
 ·simp at h
  have : (txB t).take x.toNat = txB t := List.take_of_length_le (by rw [txB_len]; omega)
  rw [this]

theorem rnamed_fn (t : ByteArray) : Ct Tryz.prog 106 {} [S t] (fun r => r = [B (namB t)]) := by
 refine rnamed_nf _ _ ?_
 have : bpick (igt (slen t) 0) (ilt (slen t) 25) false = namB t := by
  rw [Bool.eq_iff_iff]; simp [namB]; omega
 rw [this]

theorem rplace_fn (l : List ByteArray) (t : ByteArray) (hl : l.length ≤ 1000000) : Ct Tryz.prog 107 {} [SL 1 (nR l), S t] (fun r => r = [I (plc l t)]) := by
 refine rplace_nf _ _ _ ⟨fun _ x => 0 ≤ x ∧ x ≤ l.length ∧ ∀ j : Nat, j < x.toNat → l[j]? ≠ some t, fun _ x => (l.length - x).toNat, ⟨by omega, by omega, by simp⟩, ?_⟩
 rintro _ x ⟨h0, h1, hp⟩
 refine ifB_intro (fun h => ?_) (fun h => ?_)
 ·simp at h
  have w : wadd IntKind.i64 x 1 = x + 1 := wadd_i64 (by omega) (by omega)
  have e : l[x.toNat]? = some (nmAt l x) := by
   have := nmAt_some (l := l) (i := x.toNat) (by omega)
   rw [this]; congr 2; omega
  refine ⟨⟨h0, by simpa using h⟩, _, rget_nR h0 h, ?_⟩
  rw [w]
  refine ifB_intro (fun hb => ?_) (fun hb => ⟨rfl, ⟨by omega, by omega, fun j hj => ?_⟩, mlt (by dsimp only; omega)⟩)
  ·rw [seq_d, decide_eq_true_eq] at hb
   have := plc_hit (hb ▸ e) hp
   rw [this]
   have : ((x.toNat + 1 : Nat) : Int) = x + 1 := by omega
   rw [this]
  ·rw [seq_d, decide_eq_false_iff_not] at hb
   by_cases hjx : j < x.toNat
   ·exact hp j hjx
   ·obtain rfl : j = x.toNat := by omega
    rw [e]; simpa using hb
 ·simp at h
  have : plc l t = 0 := by
   rw [plc_zero]
   intro hm
   obtain ⟨i, hi, he⟩ := List.getElem_of_mem hm
   exact hp i (by omega) (by rw [List.getElem?_eq_getElem hi, he])
  rw [this]; rfl

theorem rright_fn (l : List ByteArray) (hl : l.length ≤ 1000000) : Ct Tryz.prog 49 {} [SL 1 (nR l)] (fun r => r = [B (rgtB l)]) := by
 refine rright_nf _ _ ⟨fun _ x => 0 ≤ x ∧ x ≤ l.length ∧ x ≤ 32 ∧ ∀ (j : Nat) s, j < x.toNat → l[j]? = some s → namB s = true ∧ plc l s = j + 1, fun _ x => (l.length - x).toNat, ⟨by omega, by omega, by omega, by simp⟩, ?_⟩
 rintro _ x ⟨h0, h1, h32, hp⟩
 have no : (¬ (l.length ≤ 32 ∧ (∀ s ∈ l, nmB s = true) ∧ l.Nodup)) → [B false] = [B (rgtB l)] := fun hn => by
  have : rgtB l = false := by unfold rgtB; rw [decide_eq_false_iff_not]; exact hn
  rw [this]
 refine ifB_intro (fun h => ?_) (fun h => ?_)
 ·simp at h
  have w : wadd IntKind.i64 x 1 = x + 1 := wadd_i64 (by omega) (by omega)
  have e : l[x.toNat]? = some (nmAt l x) := by
   have := nmAt_some (l := l) (i := x.toNat) (by omega)
   rw [this]; congr 2; omega
  refine ifB_intro (fun hb => ?_) (fun hb => ?_)
  ·simp at hb
   exact no (by omega)
  ·simp at hb
   refine ⟨⟨h0, by simpa using h⟩, _, rget_nR h0 h, Cl.of (rnamed_fn _) ⟨_, rfl, ifB_intro (fun hn => ?_) (fun hn => ?_)⟩⟩
   ·simp at hn
    refine no (fun hh => ?_)
    have := hh.2.1 _ (nmAt_mem h0 h)
    rw [namB_eq, hn] at this
    cases this
   ·simp at hn
    refine ⟨⟨h0, by simpa using h⟩, _, rget_nR h0 h, Cl.of (rplace_fn l _ hl) ⟨_, rfl, ?_⟩⟩
    rw [w]
    refine ifB_intro (fun hq => ?_) (fun hq => ⟨rfl, ⟨by omega, by omega, by omega, fun j s hj hs => ?_⟩, mlt (by dsimp only; omega)⟩)
    ·simp at hq
     refine no (fun hh => ?_)
     have := plc_nodup hh.2.2 e
     omega
    ·simp at hq
     by_cases hjx : j < x.toNat
     ·exact hp j s hjx hs
     ·obtain rfl : j = x.toNat := by omega
      rw [e] at hs
      cases hs
      exact ⟨hn, by omega⟩
 ·simp at h
  have : rgtB l = true := by
   rw [rgtB_iff]
   refine ⟨by omega, fun s hs => ?_, nodup_of_plc (fun i s hi => ?_)⟩
   ·obtain ⟨i, hi, he⟩ := List.getElem_of_mem hs
    exact (hp i s (by omega) (by rw [List.getElem?_eq_getElem hi, he])).1
   ·exact (hp i s (by have := (List.getElem?_eq_some_iff.1 hi).1; omega) hi).2
  rw [this]

def putN (l : List ByteArray) (t : ByteArray) : List ByteArray × Int :=
 if rgtB l = false then (l, 1) else if namB t = false then (l, 3) else if 0 < plc l t then (l, 7) else if l.length = 32 then (l, 9) else (l ++ [t], 0)

theorem rput_fn (l : List ByteArray) (t : ByteArray) (hl : l.length ≤ 1000000) : Ct Tryz.prog 187 {} [SL 1 (nR l), S t] (fun r => r = [SL 1 (nR (putN l t).1), I (putN l t).2]) := by
 refine rput_nf _ _ _ (Cl.of (rright_fn l hl) ⟨_, rfl, ifB_intro (fun h => ?_) (fun h => ?_)⟩)
 ·simp at h; simp [putN, h]
 ·simp at h
  have hl := (rgtB_iff.1 h).1
  refine Cl.of (rnamed_fn t) ⟨_, rfl, ifB_intro (fun h1 => ?_) (fun h1 => ?_)⟩
  ·simp at h1; simp [putN, h, h1]
  ·simp at h1
   refine Cl.of (rplace_fn l t (by omega)) ⟨_, rfl, ifB_intro (fun h2 => ?_) (fun h2 => ?_)⟩
   ·simp at h2; simp [putN, h, h1, h2]
   ·simp at h2
    refine ifB_intro (fun h3 => ?_) (fun h3 => ?_)
    ·simp at h3
     have h3 : l.length = 32 := by omega
     simp [putN, h, h1, h2, h3]
    ·simp at h3
     have h3 : ¬ l.length = 32 := by omega
     refine ⟨by simp; omega, by simp [rapp]; omega, ?_⟩
     simp [putN, h, h1, h2, h3, rapp]

def ctxB (cs ca : Int) (l : List ByteArray) : Bool := decide (0 ≤ cs ∧ cs ≤ 4294967296 ∧ 0 ≤ ca ∧ ca ≤ 1099511627776) && rgtB l

end Go.Proofs.YtbocfphenkidnaaGreatDoor.Cod

namespace Go.Proofs.YtbocfphenkidnaaGreatDoor.Cod
open Go Go.Px Go.Proofs Go.RowKit Go.Shelf

attribute [local go_sem] Oper.semAt_some

def Kp (N B : Nat) (w w' : World) : Prop := Keeps (fun b => b = B ∨ N ≤ b) w w'

theorem Kp.refl (N B : Nat) (w : World) : Kp N B w w := ⟨rfl, rfl, rfl, Nat.le_refl _, fun _ _ _ => rfl⟩
theorem Kp.trans {N B : Nat} {a b c : World} (h : Kp N B a b) (k : Kp N B b c) : Kp N B a c :=
 ⟨k.os.trans h.os, k.tape.trans h.tape, k.output.trans h.output, Nat.le_trans h.size k.size, fun i hi hg => (k.block i (Nat.lt_of_lt_of_le hi h.size) hg).trans (h.block i hi hg)⟩
theorem Kp.cell {N B : Nat} {w w' : World} (h : Kp N B w w') {p : Addr} {v : Value} (hp : p.block < N) (hB : p.block ≠ B) (hc : w.cell? p = some v) : w'.cell? p = some v := by
 have hlt : p.block < w.heap.size := by
  refine Classical.byContradiction fun hn => ?_
  have : w.heap[p.block]? = none := Array.getElem?_eq_none (by omega)
  simp [World.cell?, this] at hc
 rw [World.cell?_of_block (w := w) (h.block p.block hlt (by omega))]
 exact hc

def upto {α : Type} (f : Nat → α) (k : Nat) : List α := (List.range k).map f
theorem upto_succ {α : Type} (f : Nat → α) (k : Nat) : upto f (k + 1) = upto f k ++ [f k] := by simp [upto, List.range_succ]
theorem upto_length {α : Type} (f : Nat → α) (k : Nat) : (upto f k).length = k := by simp [upto]

set_option maxRecDepth 100000 in
set_option maxHeartbeats 2000000 in
theorem back1_in (F : Fence) (n : Nat) (h7 : F.fn 239) (hro : F.round = none) (hn : 1 ≤ n) (l Bs bo N B b off len cap : Nat) (zs : List Int) (hlen : len ≤ 100) (hb : b < N) (hbB : b ≠ B) (hs : Bs < N) (hsB : Bs ≠ B) (J Jx : List (Int × Int) → World → Prop)
  (hY : ∀ pre x W, J pre W → pre.length < len → YieldAt F (n - 1) Tryz.prog l #[.int .i64 x.1, .int .u8 x.2] W fun e W' =>
   (e = .returned (.bool true) ∧ J (pre ++ [x]) W' ∧ Kp N B W W') ∨ (e = .returned (.bool false) ∧ Jx (pre ++ [x]) W'))
  (W : World) (hBs : W.cell? ⟨Bs, bo, none⟩ = some (.slice (some ⟨b, off, none⟩) len cap)) (hc : ∀ j, j < len → W.cell? ⟨b, off + j, none⟩ = some (.int .u8 (zs[j]?.getD 0))) (h0 : J [] W) :
  CallsIn F n Tryz.prog 239 #[.func (.yield l) #[] #[], .pointer (some ⟨Bs, bo, none⟩)] W fun e W' => (∃ v, e = .returned v) ∧
   ((∃ ys, ys = upto (fun j => ((len : Int) - 1 - j, zs[len - 1 - j]?.getD 0)) len ∧ J ys W') ∨ (∃ pre, True ∧ Jx pre W')) := by
 refine callsIn_of_wp Tryz.func239 rfl h7 ?_ hro
 simp only [Tryz.ntmps239, List.size_toArray, List.length_cons, List.length_nil, Nat.reduceAdd, Nat.reduceSub, Array.replicate_succ, Array.replicate_zero, List.push_toArray, List.append_toArray, List.nil_append, List.cons_append]
 gi_wp2
 gi_loopw [3] (fun i wr => ∃ k : Nat, k ≤ len ∧ i = .int .i64 ((len : Int) - 1 - k) ∧ J (upto (fun j => ((len : Int) - 1 - j, zs[len - 1 - j]?.getD 0)) k) wr ∧ Kp N B W wr)
  (fun i _ => (intOf i + 1).toNat)
 case atStart => exact ⟨0, Nat.zero_le _, by simp, h0, Kp.refl _ _ _⟩
 case round =>
  obtain ⟨k, hk, rfl, hJs, hnx⟩ := hrel
  have hsx : wr.cell? ⟨Bs, bo, none⟩ = some (.slice (some ⟨b, off, none⟩) len cap) := hnx.cell (p := ⟨Bs, bo, none⟩) hs hsB hBs
  have hcx : k < len → wr.cell? ⟨b, off + (len - 1 - k), none⟩ = some (.int .u8 (zs[len - 1 - k]?.getD 0)) := fun h => hnx.cell (p := ⟨b, off + (len - 1 - k), none⟩) hb hbB (hc _ (by omega))
  by_cases hlt : k < len
  ·obtain ⟨fn, tmps, assign, body, hy, hR⟩ := hY _ ((len : Int) - 1 - k, zs[len - 1 - k]?.getD 0) wr hJs (by rw [upto_length]; exact hlt)
   dsimp only at hy
   have hcx' := hcx hlt
   have hge : (0 : Int) ≤ (len : Int) - 1 - k := by omega
   have hltz : (len : Int) - 1 - k < len := by omega
   have htn : ((len : Int) - 1 - k).toNat = len - 1 - k := by omega
   gi_wp2
   refine hR.mono ?_
   rintro e W3 (⟨rfl, hJ3, hk3⟩ | ⟨rfl, hJx3⟩)
   ·gi_wp2
    go_roundw
    case rel => exact ⟨k + 1, by omega, by simp; omega, by rw [upto_succ]; exact hJ3, hnx.trans hk3⟩
    case measure => simp [intOf]; omega
   ·gi_wp2
    refine bodyPost_ret (results_none rfl _ _ _) rfl ?_
    exact ⟨⟨_, rfl⟩, .inr ⟨_, trivial, hJx3⟩⟩
  ·obtain rfl : k = len := by omega
   gi_wp2
   go_end0
   exact ⟨⟨_, rfl⟩, .inl ⟨_, rfl, hJs⟩⟩

end Go.Proofs.YtbocfphenkidnaaGreatDoor.Cod

namespace Go.Proofs.YtbocfphenkidnaaGreatDoor.Cod
open Go Go.Px Go.Proofs Go.RowKit Go.Shelf
set_option linter.unusedVariables false

attribute [local go_sem] Oper.semAt_some

theorem wpIn_of_rf {F : Fence} {n : Nat} {P : Program} {c : Code} {id : Nat} {g : Operand} {ps : Array Tmp} {assign body : Code} {Q : Exit → Act → World → Prop} {a : Act} {w : World}
  (e : c = .block id (.rangeFunc g ps assign body)) (h : (Code.rangeFunc g ps assign body).wpIn F n P (Exit.inBlock id Q) a w) : c.wpIn F n P Q a w := by
 subst e; exact wpIn_block h

def ustep (n x : Int) : Int := wor .u64 (wshl .u64 n 7) (wcv .u64 (wrem x 128))
def uall (n : Int) (l : List (Int × Int)) : Int := l.foldl (fun n x => ustep n x.2) n

theorem setCell_cells {W : World} {B : Nat} {v v' : Value} {t : TypeId} (h : W.heap[B]? = some (.cells #[v] t (0, 0))) : (W.setCell ⟨B, 0, none⟩ v').heap[B]? = some (.cells #[v'] t (0, 0)) := by
 simp only [World.setCell, Array.getElem?_modify, h, if_true, Option.map_some]
 rfl

set_option maxRecDepth 100000 in
set_option maxHeartbeats 4000000 in
theorem rf_core (v0 v1 v2 v3 v4 v5 v7 v8 v9 v10 v11 v12 v13 v14 v15 v16 v17 v18 v19 v20 v21 v22 v23 v24 v25 v26 v27 v28 v29 v30 v31 v32 v33 v34 v35 v36 v37 v38 v39 v40 v41 v42 v43 v44 v45 v46 v47 v48 v49 v50 v51 v52 v53 v54 v55 v56 v57 v58 v59 v60 v61 v62 v64 v65 v66 v67 v68 v69 v70 v71 v72 v73 v74 v75 v76 v77 v78 v79 : Value) (B Bs bo b off len cap : Nat) (t : TypeId) (n0 : Int) (zs : List Int) (w : World) (Q : Exit → Act → World → Prop)
  (hlen : len ≤ 100) (hBw : B < w.heap.size) (hb : b < w.heap.size) (hbB : b ≠ B) (hs : Bs < w.heap.size) (hsB : Bs ≠ B)
  (hBs : w.cell? ⟨Bs, bo, none⟩ = some (.slice (some ⟨b, off, none⟩) len cap)) (hc : ∀ j, j < len → w.cell? ⟨b, off + j, none⟩ = some (.int .u8 (zs[j]?.getD 0)))
  (hn : w.heap[B]? = some (.cells #[.int .u64 n0] t (0, 0)))
  (hQ : ∀ (D : Nat) (W : World), w.heap.size ≤ D → Keeps (fun k => k = B) w W → W.heap[B]? = some (.cells #[.int .u64 (uall n0 (upto (fun j => ((len : Int) - 1 - j, zs[len - 1 - j]?.getD 0)) len))] t (0, 0)) → W.heap[D]? = some (.deferred (some [])) →
   Q .normal { tmps := #[v0, v1, v2, v3, v4, v5, .pointer (some ⟨B, 0, none⟩), v7, v8, v9, v10, v11, v12, v13, v14, v15, v16, v17, v18, v19, v20, v21, v22, v23, v24, v25, v26, v27, v28, v29, v30, v31, v32, v33, v34, v35, v36, v37, v38, v39, v40, v41, v42, v43, v44, v45, v46, v47, v48, v49, v50, v51, v52, v53, v54, v55, v56, v57, v58, v59, v60, v61, v62, .func (.func 239) #[] #[.pointer (some ⟨Bs, bo, none⟩)], v64, v65, v66, v67, v68, v69, v70, v71, v72, v73, v74, v75, v76, v77, v78, v79], defers := [{ target := .collected D, args := #[] }] } W) :
  (rfOf (Tryz.f197.body.getD .skip)).wp Tryz.prog Q { tmps := #[v0, v1, v2, v3, v4, v5, .pointer (some ⟨B, 0, none⟩), v7, v8, v9, v10, v11, v12, v13, v14, v15, v16, v17, v18, v19, v20, v21, v22, v23, v24, v25, v26, v27, v28, v29, v30, v31, v32, v33, v34, v35, v36, v37, v38, v39, v40, v41, v42, v43, v44, v45, v46, v47, v48, v49, v50, v51, v52, v53, v54, v55, v56, v57, v58, v59, v60, v61, v62, .func (.func 239) #[] #[.pointer (some ⟨Bs, bo, none⟩)], v64, v65, v66, v67, v68, v69, v70, v71, v72, v73, v74, v75, v76, v77, v78, v79], defers := [] } w := by
 refine (wpIn_wide (n := 3)).1 ?_
 refine wpIn_of_rf rfl ?_
 refine wpIn_rangeFunc_ownG (F := Fence.wide) (n := 3) rfl (by omega) (gf := 239) (lb := #[.pointer (some ⟨Bs, bo, none⟩)]) rfl trivial (enters_of Tryz.func239 (by kernel_rfl) rfl)
  (encs := fun x : Int × Int => #[Value.int .i64 x.1, Value.int .u8 x.2]) (Kp := Kp w.heap.size B) (S := fun ys => ys = upto (fun j => ((len : Int) - 1 - j, zs[len - 1 - j]?.getD 0)) len) (Sp := fun _ => True) (N := len) (w0 := w)
  (fun l J Jx W hW _ _ hY h0 => back1_in Fence.wide 2 trivial rfl (by omega) l Bs bo w.heap.size B b off len cap zs hlen hb hbB hs hsB J Jx hY W ((hW.cell (p := ⟨Bs, bo, none⟩) hs).trans hBs) (fun j hj => (hW.cell (p := ⟨b, off + j, none⟩) hb).trans (hc j hj)) h0)
  (fun h k => h.trans k) (fun W l o o' hl h ho hw => ⟨rfl, rfl, rfl, by simp, fun k hk hg => World.putObj_heap_other (by omega)⟩) (Below.refl _ _) (fun _ => rfl)
  (fun pre W => Keeps (fun k => k = B) w W ∧ W.heap[B]? = some (.cells #[.int .u64 (uall n0 pre)] t (0, 0)))
  (fun _ _ _ => False)
  (fun s W W' row hs hg hr => ?own) (fun _ _ _ _ _ hs _ _ => hs)
  ⟨Keeps.refl _ _, hn⟩
  (fun x => { tmps := #[v0, v1, v2, v3, v4, v5, .pointer (some ⟨B, 0, none⟩), v7, .int .u8 x.2, v9, v10, v11, v12, v13, v14, v15, v16, v17, v18, v19, v20, v21, v22, v23, v24, v25, v26, v27, v28, v29, v30, v31, v32, v33, v34, v35, v36, v37, v38, v39, v40, v41, v42, v43, v44, v45, v46, v47, v48, v49, v50, v51, v52, v53, v54, v55, v56, v57, v58, v59, v60, v61, v62, .func (.func 239) #[] #[.pointer (some ⟨Bs, bo, none⟩)], .int .i64 x.1, .int .u8 x.2, v66, v67, v68, v69, v70, v71, v72, v73, v74, v75, v76, v77, v78, v79], defers := [] }) ?assign ?body ?done ?stop
 case own =>
  obtain ⟨hk, hB⟩ := hs
  have hsz := hk.size
  have hrB : ∀ k, k < w.heap.size → W'.heap[k]? = W.heap[k]? := fun k hk1 => hg.block k (by omega) (fun e => by have := (hr k e.symm).1; omega)
  exact ⟨⟨hg.os.trans hk.os, hg.tape.trans hk.tape, hg.output.trans hk.output, Nat.le_trans hsz hg.size, fun k h1 h2 => (hrB k h1).trans (hk.block k h1 h2)⟩, (hrB B hBw).trans hB⟩
 case assign =>
  intro l x W K hK
  gi_wp2
  exact hK
 case body =>
  rintro l pre x W ⟨hk, hB⟩ _
  have hcell : W.cell? ⟨B, 0, none⟩ = some (.int .u64 (uall n0 pre)) := by simp [World.cell?, hB]
  have hfr : W.frozen? ⟨B, 0, none⟩ = false := by simp [World.frozen?, hB]
  gi_wp2
  have hu : uall n0 (pre ++ [x]) = ustep (uall n0 pre) x.2 := by simp [uall]
  refine ⟨(KeepsOthers.setCell _ _ _).from _, ⟨rfl, rfl, rfl, by simp, fun k hk hg => Below.heap_setCell _ _ _ _ (fun e => hg (.inl e))⟩, ⟨hk.os, hk.tape, hk.output, by simpa using hk.size, fun k h1 h2 => (Below.heap_setCell _ _ _ _ h2).trans (hk.block k h1 h2)⟩, ?_⟩
  rw [hu]
  exact setCell_cells hB
 case done =>
  rintro D ys W hD rfl ⟨hk, hB⟩ hK
  exact hQ D W hD hk hB hK
 case stop =>
  rintro D c pre W _ _ h _
  exact h.elim

theorem range80 (f : Nat → Value) : (List.range 80).map f = [f 0, f 1, f 2, f 3, f 4, f 5, f 6, f 7, f 8, f 9, f 10, f 11, f 12, f 13, f 14, f 15, f 16, f 17, f 18, f 19, f 20, f 21, f 22, f 23, f 24, f 25, f 26, f 27, f 28, f 29, f 30, f 31, f 32, f 33, f 34, f 35, f 36, f 37, f 38, f 39, f 40, f 41, f 42, f 43, f 44, f 45, f 46, f 47, f 48, f 49, f 50, f 51, f 52, f 53, f 54, f 55, f 56, f 57, f 58, f 59, f 60, f 61, f 62, f 63, f 64, f 65, f 66, f 67, f 68, f 69, f 70, f 71, f 72, f 73, f 74, f 75, f 76, f 77, f 78, f 79] := by kernel_rfl
theorem arr80 (t : Array Value) (h : t.size = 80) : t = #[t.getD 0 undef, t.getD 1 undef, t.getD 2 undef, t.getD 3 undef, t.getD 4 undef, t.getD 5 undef, t.getD 6 undef, t.getD 7 undef, t.getD 8 undef, t.getD 9 undef, t.getD 10 undef, t.getD 11 undef, t.getD 12 undef, t.getD 13 undef, t.getD 14 undef, t.getD 15 undef, t.getD 16 undef, t.getD 17 undef, t.getD 18 undef, t.getD 19 undef, t.getD 20 undef, t.getD 21 undef, t.getD 22 undef, t.getD 23 undef, t.getD 24 undef, t.getD 25 undef, t.getD 26 undef, t.getD 27 undef, t.getD 28 undef, t.getD 29 undef, t.getD 30 undef, t.getD 31 undef, t.getD 32 undef, t.getD 33 undef, t.getD 34 undef, t.getD 35 undef, t.getD 36 undef, t.getD 37 undef, t.getD 38 undef, t.getD 39 undef, t.getD 40 undef, t.getD 41 undef, t.getD 42 undef, t.getD 43 undef, t.getD 44 undef, t.getD 45 undef, t.getD 46 undef, t.getD 47 undef, t.getD 48 undef, t.getD 49 undef, t.getD 50 undef, t.getD 51 undef, t.getD 52 undef, t.getD 53 undef, t.getD 54 undef, t.getD 55 undef, t.getD 56 undef, t.getD 57 undef, t.getD 58 undef, t.getD 59 undef, t.getD 60 undef, t.getD 61 undef, t.getD 62 undef, t.getD 63 undef, t.getD 64 undef, t.getD 65 undef, t.getD 66 undef, t.getD 67 undef, t.getD 68 undef, t.getD 69 undef, t.getD 70 undef, t.getD 71 undef, t.getD 72 undef, t.getD 73 undef, t.getD 74 undef, t.getD 75 undef, t.getD 76 undef, t.getD 77 undef, t.getD 78 undef, t.getD 79 undef] := by
 have e : t = ((List.range 80).map (fun i => t.getD i undef)).toArray := by
  apply Array.ext
  ·simp [h]
  ·intro i h1 h2
   simp [h1]
 exact e.trans (congrArg List.toArray (range80 (fun i => t.getD i undef)))

theorem ObOK.lt {h : Hp} {ρ : Nat → Px.Loc} {w : World} {id : Nat} {o : Ob} (ho : ObOK h ρ w id o) (hn : (ρ id).none = false) : ∃ x, w.heap[(ρ id).blk]? = some x ∧ ∀ d, x ≠ .deferred d := by
 cases o with
 | box cells => obtain ⟨_, ⟨cs, t, e, _⟩, _⟩ := ho; exact ⟨_, e, by simp⟩
 | own sz rows =>
  rcases ho with ⟨h1, _⟩ | ⟨_, ho⟩
  ·rw [h1] at hn; cases hn
  ·obtain ⟨cs, t, fz, e, _⟩ := ho.hblk; exact ⟨_, e, by simp⟩
 | mp es => obtain ⟨_, ⟨ents, cl, e, _⟩, _⟩ := ho; exact ⟨_, e, by simp⟩
 | arr kd m ns => obtain ⟨_, ⟨cs, t, hc, _⟩, _⟩ := ho; exact ⟨_, hc, fun d e => by cases e⟩

def byR (r : List SV) : Int := match r with | [.val (.int _ x)] => x | _ => 0

theorem upto_snd (zs : List Int) : (upto (fun j => ((zs.length : Int) - 1 - j, zs[zs.length - 1 - j]?.getD 0)) zs.length).map (·.2) = zs.reverse := by
 apply List.ext_getElem
 ·simp [upto]
 ·intro i h1 h2
  simp at h2
  simp only [upto, List.getElem_map, List.getElem_range, List.getElem_reverse]
  rw [List.getElem?_eq_getElem (by omega)]; rfl

theorem uall_ufold (n : Int) (rows : List (List SV)) : uall n (upto (fun j => (((rows.map byR).length : Int) - 1 - j, (rows.map byR)[(rows.map byR).length - 1 - j]?.getD 0)) (rows.map byR).length) = ufold n rows := by
 have e : ∀ (l : List (Int × Int)) (n : Int), uall n l = (l.map (·.2)).foldl ustep n := by
  intro l; induction l with
  | nil => intro n; rfl
  | cons x l ih => intro n; exact ih _
 rw [e, upto_snd, ← List.map_reverse, List.foldl_map]
 rfl

theorem rf_sound {X : Cx} {h : Hp} {ρ : Nat → Px.Loc} {st : St} {a : Act} {w : World} (F : FitsAt X h ρ st a w) (hdf : X.df = []) {K : St → Prop} (hk : rfBack Tryz.f197.ntmps 239 63 6 st K) {Q : Exit → Act → World → Prop}
  (hQ : ∀ (D : Nat) (st' : St) (W : World), w.heap.size ≤ D → FitsAt X h ρ st' a W → K st' → W.heap[D]? = some (.deferred (some [])) → (∀ i, live st'.objs ρ i → (ρ i).blk < w.heap.size) → Q .normal { a with defers := [{ target := .collected D, args := #[] }] } W) :
  (rfOf (Tryz.f197.body.getD .skip)).wp Tryz.prog Q a w := by
 unfold rfBack at hk
 cases hnt : Nat.beq (lenN st.tmps) Tryz.f197.ntmps with
 | false => simp only [hnt, cond_false] at hk
 | true =>
 simp only [hnt, cond_true] at hk
 have hsz : st.tmps.length = 80 := by
  have e := Nat.eq_of_beq_eq_true hnt
  rw [Tryz.ntmps197, lenN_eq] at e
  exact e
 split at hk
 ·rename_i f cs hcl
  split at hk
  ·rename_i id hpt
   split at hk
   ·rename_i n0 hob
    obtain ⟨rows, rfl, rfl, hby, hpos, h100, hK⟩ := hk
    have r63 := F.slot [] (by simp) 63
    rw [hcl] at r63
    have r6 := F.slot [] (by simp) 6
    rw [hpt] at r6
    have hB := F.obj _ _ hob
    obtain ⟨hnn, ⟨cells, t, hheap, hcs, hcv⟩, hno⟩ := hB
    have r6' : Rep h ρ (a.tmps.getD 6 undef) (.ptr id 0) := r6
    have r63' : Rep h ρ (a.tmps.getD 63 undef) (.clo 239 [.ref 0 [.slice 1 rows 0]]) := r63
    have e6 : a.tmps.getD 6 undef = .pointer (some ⟨(ρ id).blk, 0, none⟩) := by
     generalize a.tmps.getD 6 undef = v at r6'
     cases r6' with
     | pure _ _ hp => cases hp
     | ptr => rfl
    obtain ⟨Bs, bo, b, off, cap, e63, hcap, hrow⟩ : ∃ Bs bo b off cap, a.tmps.getD 63 undef = .func (.func 239) #[] #[.pointer (some ⟨Bs, bo, none⟩)] ∧ h Bs bo = some (.slice (some ⟨b, off, none⟩) rows.length cap) ∧
      ∀ (i : Nat) r, rows[i]? = some r → h b (off + i) = some (.int .u8 (byR r)) := by
     generalize a.tmps.getD 63 undef = v at r63'
     cases r63' with
     | pure _ _ hp =>
      cases hp with
      | clo _ vs _ hl hc =>
       simp at hl
       obtain ⟨u, rfl⟩ : ∃ u, vs = #[u] := by
        rcases vs with ⟨l⟩
        match l, hl with
        | [u], _ => exact ⟨u, rfl⟩
       have r1 := hc 0 u _ (by simp) (by simp; rfl)
       cases r1 with
       | ref bb base _ _ vs hh hr =>
        have h1 := hh 0 _ (by simp; rfl)
        have h2 := hr 0 _ (by simp; rfl)
        generalize vs 0 = u at h1 h2
        cases h2 with
        | empty => simp at hpos
        | slice b off cap _ _ _ vs2 hpos2 hz hh2 hr2 =>
         refine ⟨bb, base + 0, b, off, cap, rfl, by simpa using h1, fun i r hi => ?_⟩
         obtain ⟨m, rfl, _⟩ := hby r (List.mem_of_getElem? hi)
         have q1 := hh2 i _ 0 _ hi (by simp; rfl)
         have q2 := hr2 i _ 0 _ hi (by simp; rfl)
         generalize vs2 i 0 = u2 at q1 q2
         cases q2
         simpa [byR] using q1
    have hcell0 : cells = #[.int .u64 n0] := by
     simp at hcs
     rcases cells with ⟨l⟩
     match l, hcs with
     | [u], _ =>
      have := (hcv 0 u _ (by simp) (by simp; rfl)).1
      cases this with
      | pure _ _ hp => cases hp; rfl
    subst hcell0
    have hne : ∀ b o v, h b o = some v → b ≠ (ρ id).blk ∧ b < w.heap.size := by
     intro b o v e
     refine ⟨fun e' => (by subst e'; rw [hno o] at e; cases e), ?_⟩
     have := F.sub b o v e
     refine Classical.byContradiction fun hn => ?_
     have hnone : w.heap[b]? = none := Array.getElem?_eq_none (by omega)
     simp [World.cell?, hnone] at this
    have hBw : (ρ id).blk < w.heap.size := (Array.getElem?_eq_some_iff.1 hheap).1
    have hpos' : 0 < rows.length := by simpa using hpos
    have hb0 := hrow 0 rows[0] (List.getElem?_eq_getElem hpos')
    have hbb := hne _ _ _ hb0
    have hBB := hne _ _ _ hcap
    have ha80 : a.tmps.size = 80 := F.size.trans hsz
    have harr := arr80 a.tmps ha80
    have ha : a = { tmps := #[a.tmps.getD 0 undef, a.tmps.getD 1 undef, a.tmps.getD 2 undef, a.tmps.getD 3 undef, a.tmps.getD 4 undef, a.tmps.getD 5 undef, .pointer (some ⟨(ρ id).blk, 0, none⟩), a.tmps.getD 7 undef, a.tmps.getD 8 undef, a.tmps.getD 9 undef, a.tmps.getD 10 undef, a.tmps.getD 11 undef, a.tmps.getD 12 undef, a.tmps.getD 13 undef, a.tmps.getD 14 undef, a.tmps.getD 15 undef, a.tmps.getD 16 undef, a.tmps.getD 17 undef, a.tmps.getD 18 undef, a.tmps.getD 19 undef, a.tmps.getD 20 undef, a.tmps.getD 21 undef, a.tmps.getD 22 undef, a.tmps.getD 23 undef, a.tmps.getD 24 undef, a.tmps.getD 25 undef, a.tmps.getD 26 undef, a.tmps.getD 27 undef, a.tmps.getD 28 undef, a.tmps.getD 29 undef, a.tmps.getD 30 undef, a.tmps.getD 31 undef, a.tmps.getD 32 undef, a.tmps.getD 33 undef, a.tmps.getD 34 undef, a.tmps.getD 35 undef, a.tmps.getD 36 undef, a.tmps.getD 37 undef, a.tmps.getD 38 undef, a.tmps.getD 39 undef, a.tmps.getD 40 undef, a.tmps.getD 41 undef, a.tmps.getD 42 undef, a.tmps.getD 43 undef, a.tmps.getD 44 undef, a.tmps.getD 45 undef, a.tmps.getD 46 undef, a.tmps.getD 47 undef, a.tmps.getD 48 undef, a.tmps.getD 49 undef, a.tmps.getD 50 undef, a.tmps.getD 51 undef, a.tmps.getD 52 undef, a.tmps.getD 53 undef, a.tmps.getD 54 undef, a.tmps.getD 55 undef, a.tmps.getD 56 undef, a.tmps.getD 57 undef, a.tmps.getD 58 undef, a.tmps.getD 59 undef, a.tmps.getD 60 undef, a.tmps.getD 61 undef, a.tmps.getD 62 undef, .func (.func 239) #[] #[.pointer (some ⟨Bs, bo, none⟩)], a.tmps.getD 64 undef, a.tmps.getD 65 undef, a.tmps.getD 66 undef, a.tmps.getD 67 undef, a.tmps.getD 68 undef, a.tmps.getD 69 undef, a.tmps.getD 70 undef, a.tmps.getD 71 undef, a.tmps.getD 72 undef, a.tmps.getD 73 undef, a.tmps.getD 74 undef, a.tmps.getD 75 undef, a.tmps.getD 76 undef, a.tmps.getD 77 undef, a.tmps.getD 78 undef, a.tmps.getD 79 undef], defers := [] } := by
     have e1 : a.tmps = #[a.tmps.getD 0 undef, a.tmps.getD 1 undef, a.tmps.getD 2 undef, a.tmps.getD 3 undef, a.tmps.getD 4 undef, a.tmps.getD 5 undef, .pointer (some ⟨(ρ id).blk, 0, none⟩), a.tmps.getD 7 undef, a.tmps.getD 8 undef, a.tmps.getD 9 undef, a.tmps.getD 10 undef, a.tmps.getD 11 undef, a.tmps.getD 12 undef, a.tmps.getD 13 undef, a.tmps.getD 14 undef, a.tmps.getD 15 undef, a.tmps.getD 16 undef, a.tmps.getD 17 undef, a.tmps.getD 18 undef, a.tmps.getD 19 undef, a.tmps.getD 20 undef, a.tmps.getD 21 undef, a.tmps.getD 22 undef, a.tmps.getD 23 undef, a.tmps.getD 24 undef, a.tmps.getD 25 undef, a.tmps.getD 26 undef, a.tmps.getD 27 undef, a.tmps.getD 28 undef, a.tmps.getD 29 undef, a.tmps.getD 30 undef, a.tmps.getD 31 undef, a.tmps.getD 32 undef, a.tmps.getD 33 undef, a.tmps.getD 34 undef, a.tmps.getD 35 undef, a.tmps.getD 36 undef, a.tmps.getD 37 undef, a.tmps.getD 38 undef, a.tmps.getD 39 undef, a.tmps.getD 40 undef, a.tmps.getD 41 undef, a.tmps.getD 42 undef, a.tmps.getD 43 undef, a.tmps.getD 44 undef, a.tmps.getD 45 undef, a.tmps.getD 46 undef, a.tmps.getD 47 undef, a.tmps.getD 48 undef, a.tmps.getD 49 undef, a.tmps.getD 50 undef, a.tmps.getD 51 undef, a.tmps.getD 52 undef, a.tmps.getD 53 undef, a.tmps.getD 54 undef, a.tmps.getD 55 undef, a.tmps.getD 56 undef, a.tmps.getD 57 undef, a.tmps.getD 58 undef, a.tmps.getD 59 undef, a.tmps.getD 60 undef, a.tmps.getD 61 undef, a.tmps.getD 62 undef, .func (.func 239) #[] #[.pointer (some ⟨Bs, bo, none⟩)], a.tmps.getD 64 undef, a.tmps.getD 65 undef, a.tmps.getD 66 undef, a.tmps.getD 67 undef, a.tmps.getD 68 undef, a.tmps.getD 69 undef, a.tmps.getD 70 undef, a.tmps.getD 71 undef, a.tmps.getD 72 undef, a.tmps.getD 73 undef, a.tmps.getD 74 undef, a.tmps.getD 75 undef, a.tmps.getD 76 undef, a.tmps.getD 77 undef, a.tmps.getD 78 undef, a.tmps.getD 79 undef] := by
      rw [e6, e63] at harr
      exact harr
     have e2 : a.defers = [] := F.df.trans hdf
     have e0 : a = ⟨a.tmps, a.defers⟩ := rfl
     exact e0.trans (congr (congrArg Act.mk e1) e2)
    have h100' : rows.length ≤ 100 := by have := h100; rw [rlen_eq] at this; omega
    have core := rf_core (a.tmps.getD 0 undef) (a.tmps.getD 1 undef) (a.tmps.getD 2 undef) (a.tmps.getD 3 undef) (a.tmps.getD 4 undef) (a.tmps.getD 5 undef) (a.tmps.getD 7 undef) (a.tmps.getD 8 undef) (a.tmps.getD 9 undef) (a.tmps.getD 10 undef) (a.tmps.getD 11 undef) (a.tmps.getD 12 undef) (a.tmps.getD 13 undef) (a.tmps.getD 14 undef) (a.tmps.getD 15 undef) (a.tmps.getD 16 undef) (a.tmps.getD 17 undef) (a.tmps.getD 18 undef) (a.tmps.getD 19 undef) (a.tmps.getD 20 undef) (a.tmps.getD 21 undef) (a.tmps.getD 22 undef) (a.tmps.getD 23 undef) (a.tmps.getD 24 undef) (a.tmps.getD 25 undef) (a.tmps.getD 26 undef) (a.tmps.getD 27 undef) (a.tmps.getD 28 undef) (a.tmps.getD 29 undef) (a.tmps.getD 30 undef) (a.tmps.getD 31 undef) (a.tmps.getD 32 undef) (a.tmps.getD 33 undef) (a.tmps.getD 34 undef) (a.tmps.getD 35 undef) (a.tmps.getD 36 undef) (a.tmps.getD 37 undef) (a.tmps.getD 38 undef) (a.tmps.getD 39 undef) (a.tmps.getD 40 undef) (a.tmps.getD 41 undef) (a.tmps.getD 42 undef) (a.tmps.getD 43 undef) (a.tmps.getD 44 undef) (a.tmps.getD 45 undef) (a.tmps.getD 46 undef) (a.tmps.getD 47 undef) (a.tmps.getD 48 undef) (a.tmps.getD 49 undef) (a.tmps.getD 50 undef) (a.tmps.getD 51 undef) (a.tmps.getD 52 undef) (a.tmps.getD 53 undef) (a.tmps.getD 54 undef) (a.tmps.getD 55 undef) (a.tmps.getD 56 undef) (a.tmps.getD 57 undef) (a.tmps.getD 58 undef) (a.tmps.getD 59 undef) (a.tmps.getD 60 undef) (a.tmps.getD 61 undef) (a.tmps.getD 62 undef) (a.tmps.getD 64 undef) (a.tmps.getD 65 undef) (a.tmps.getD 66 undef) (a.tmps.getD 67 undef) (a.tmps.getD 68 undef) (a.tmps.getD 69 undef) (a.tmps.getD 70 undef) (a.tmps.getD 71 undef) (a.tmps.getD 72 undef) (a.tmps.getD 73 undef) (a.tmps.getD 74 undef) (a.tmps.getD 75 undef) (a.tmps.getD 76 undef) (a.tmps.getD 77 undef) (a.tmps.getD 78 undef) (a.tmps.getD 79 undef) (ρ id).blk Bs bo b off (rows.map byR).length cap t n0 (rows.map byR) w Q (by simpa using h100') hBw hbb.2 hbb.1 hBB.2 hBB.1
     (by simpa using F.sub _ _ _ hcap) (fun j hj => by
      have hj : j < rows.length := by simpa using hj
      have := F.sub _ _ _ (hrow j rows[j] (List.getElem?_eq_getElem hj))
      simpa [hj] using this) hheap
    rw [ha]
    refine core (fun D W hD hkp hBv hDd => ?_)
    rw [uall_ufold] at hBv
    have F1 := F.setOb id _ (.box [.val (.int .u64 (ufold n0 rows))]) (w.setCell ⟨(ρ id).blk, 0, none⟩ (.int .u64 (ufold n0 rows))) hob hnn
     ⟨hnn, ⟨_, t, setCell_cells hheap, rfl, fun i v c hv hc => by
      cases i with
      | zero => simp at hv hc; subst hv; subst hc; exact ⟨.pure _ _ (.val _), rfl⟩
      | succ i => simp at hv⟩, hno⟩
     (fun k hk => Below.heap_setCell _ _ _ _ hk) ⟨rfl, rfl, rfl, by simp, fun k _ hk => Below.heap_setCell _ _ _ _ hk⟩
    have F2 := F1.made (w' := W) ⟨hkp.os, hkp.tape, hkp.output, by simpa using hkp.size, fun k hk1 _ => by
     by_cases e : k = (ρ id).blk
     ·subst e; rw [hBv, setCell_cells hheap]
     ·rw [Below.heap_setCell _ _ _ _ e]; exact hkp.block k (by simpa using hk1) e⟩
    have := hQ D _ W hD F2 hK hDd (fun i ⟨⟨o, ho⟩, hn⟩ => by
     obtain ⟨x, hx, _⟩ := ObOK.lt (F1.obj i o ho) hn
     have := (Array.getElem?_eq_some_iff.1 hx).1
     simpa using this)
    rw [ha] at this
    exact this
   ·exact hk.elim
  ·exact hk.elim
 ·exact hk.elim

open Classical in
theorem uint_of (Sg : FuncId → Sig) (Sv : TypeId → Sig) (L : Nat → Option LoopSpec) {args : List SV} {Q : List SV → Prop} {Y : Prop} (e : Y = vcB Tryz.prog Sg Sv L Tryz.f197 {} args Q 239 63 6) (hY : Y) : Ct Tryz.prog 197 {} args Q := by
 have hv := e.mp hY
 unfold vcB at hv
 split at hv
 ·rename_i c hb
  have hRF : hasRF c = true := by
   have : Tryz.f197.body.map hasRF = some true := by kernel_rfl
   rw [hb] at this; simpa using this
  have hone : spineOne c = true := by
   have : Tryz.f197.body.map spineOne = some true := by kernel_rfl
   rw [hb] at this; simpa using this
  have hname : Tryz.f197.name ≠ "runtime.NumGoroutine" := by
   have : (Tryz.f197.name == "runtime.NumGoroutine") = false := by kernel_rfl
   intro e; rw [e] at this; simp at this
  refine ⟨⟨Tryz.f197, Tryz.func197, by rw [hb]; rfl, hname⟩, fun hs objs hargs h ρ w vs hH hgl hrep => ?_⟩
  refine (callsIn_wide (n := 3)).1 (callsIn_of_wp_marks Tryz.func197 hb trivial ((wpIn_wide).2 ?_) rfl)
  have hst : Px.start Tryz.f197 {} args = { tmps := hs ++ List.replicate (Tryz.f197.ntmps - hs.length) .unk, objs := objs } := by
   simp only [Px.start, hargs]
  rw [hst] at hv
  have hlen : vs.size = hs.length := by have := hrep.1; simpa using this
  let X : Cx := { w := w, h := h, G := Gv objs ρ, pin := fun id => if ∃ i ms, ({} : Sig).ps[i]? = some (.lend ms) ∧ id = pId i then some (ρ id) else none }
  have F : FitsAt X h ρ { tmps := hs ++ List.replicate (Tryz.f197.ntmps - hs.length) .unk, objs := objs } { tmps := vs ++ Array.replicate (Tryz.f197.ntmps - vs.size) undef, defers := [] } w := by
   refine ⟨by simp [hlen], fun t s hs' => ?_, rfl, hH.sub, fun id o ho => hH.obj id o (oget_mem ho), hH.inj, fun i hi => .inr ⟨i, hi, rfl⟩, HLe.refl _, fun _ _ _ _ e => e, Keeps.refl _ _, fun id l hp => ?_, hgl, hgl.off (fun i ⟨⟨o, e⟩, hn⟩ => ObOK.hnone (hH.obj i o (oget_mem e)) hn)⟩
   ·simp only [] at hs'
    rw [List.getElem?_append] at hs'
    by_cases ht : t < hs.length
    ·rw [if_pos ht] at hs'
     have hv' : (vs ++ Array.replicate (Tryz.f197.ntmps - vs.size) undef).getD t undef = vs[t]'(by omega) := by
      simp [Array.getElem?_append, hlen, ht]
     simp only [hv']
     exact TRep.of_rep' (hrep.2 t _ s (by simp) hs')
    ·rw [if_neg ht] at hs'
     rw [List.getElem?_replicate] at hs'
     split at hs'
     ·cases hs'; exact TRep.rep_unk _ _
     ·cases hs'
   ·simp only [X] at hp
    split at hp
    ·rename_i hx
     obtain ⟨i, ms, h1, rfl⟩ := hx
     simp at h1
    ·cases hp
  refine front_sound Sg Sv L c hRF X _ _ _ _ _ ?_ ?_ ⟨h, ρ, F⟩ hv
  ·intro e st a w' he hF hq
   cases e with
   | normal => exact absurd rfl he
   | exit id => exact hq.elim
   | ret =>
    obtain ⟨st0, hF0, hq0⟩ := close_sound _ hF hq
    obtain ⟨h1, v, h2, h3⟩ := fin_key (ds := []) hF0 hq0
    show LeavesInM _ _ _ _ _ _ a.defers _ _
    rw [h1]
    exact ⟨v, h2, h3⟩
  ·rintro st a w' ⟨h1, ρ1, F1⟩ hq
   rw [backWp_one c _ hone]
   have hrf : rfOf c = rfOf (Tryz.f197.body.getD .skip) := by rw [hb]; rfl
   rw [hrf]
   refine rf_sound F1 rfl hq (fun D st' W hD F2 hvt hDd hlive => ?_)
   show (tlOf c).wp Tryz.prog _ _ W
   have hDW : D < W.heap.size := (Array.getElem?_eq_some_iff.1 hDd).1
   have hXD : X.w.heap.size ≤ D := Nat.le_trans F1.kp.size hD
   refine vc_sound Sg Sv L (tlOf c) _ st' _ W _ _ ?_ ⟨_, _, F2.restand [{ target := .collected D, args := #[] }]⟩ hvt
   rintro e st3 a3 w3 ⟨h3, ρ3, F3⟩ _ he
   have hDd3 : w3.heap[D]? = some (.deferred (some [])) := by
    rw [F3.kp.block D hDW (fun hg => ?_)]
    ·exact hDd
    ·obtain ⟨i, hi, hd⟩ := hg
     have := hlive i hi
     omega
   have F4 := F2.based F3
   have F5 := F4.touch (w' := w3.putObj D (.deferred none)) D (fun i hi hd => by
     obtain ⟨⟨o, ho⟩, hn⟩ := hi
     obtain ⟨x, hx, hne⟩ := ObOK.lt (F3.obj i o ho) hn
     rw [hd, hDd3] at hx
     cases hx
     exact hne _ rfl)
    (fun o => by
     cases e : h3 D o with
     | none => rfl
     | some v =>
      have := F3.sub D o v e
      simp [World.cell?, hDd3] at this)
    (.inl hXD) (fun k hk => World.putObj_heap_other hk) ⟨rfl, rfl, rfl, by simp, fun k _ hk => World.putObj_heap_other hk⟩
   have key : fin Tryz.prog Tryz.f197 {} Q .ret st3 → LeavesInM Fence.wide 3 Tryz.prog Tryz.f197 a3.tmps (Back {} objs h ρ w Q) a3.defers .returning w3 := by
    intro hfin
    obtain ⟨st4, hF4, hq4⟩ := close_sound _ ⟨h3, ρ3, F5⟩ hfin
    obtain ⟨q1, v, q2, q3⟩ := fin_key (ds := [{ target := .collected D, args := #[] }]) hF4 hq4
    rw [q1]
    exact ⟨by simp, .inl ⟨D, _, rfl, run_takeDeferred hDd3, ⟨v, q2, q3⟩⟩⟩
   cases e with
   | normal => exact key he
   | ret => exact key he
   | exit id => exact he.elim
 ·exact hv.elim

end Go.Proofs.YtbocfphenkidnaaGreatDoor.Cod

namespace Go.Proofs.YtbocfphenkidnaaGreatDoor.Cod
open Go Go.Px Go.Proofs
set_option maxRecDepth 100000
set_option linter.unusedVariables false

theorem right_nf (bs : LL) (at_ er : Int) (Q : List SV → Prop) (h : Q [B (bpick (bpick (ige at_ 0) (ile at_ (rlen bs)) false) (ieq er 0) false)]) : Ct Tryz.prog 207 {} [cu3 bs at_ er] Q :=
 fn_of (f := 207) SgT SvT (fun _ => none) Tryz.f207 Tryz.func207 (by kernel_rfl) (by kernel_rfl) h

theorem stay_nf (bs : LL) (at_ er : Int) (e : Int) (Q : List SV → Prop) (h : ifB (ieq er 0) (Q ([SV.agg [SL 1 bs, I at_, I e]])) (Q ([SV.agg [SL 1 bs, I at_, I er]]))) : Ct Tryz.prog 226 {} [cu3 bs at_ er, I e] Q :=
 fn_of (f := 226) SgT SvT (fun _ => none) Tryz.f226 Tryz.func226 (by kernel_rfl) (by kernel_rfl) h

theorem left_nf (bs : LL) (at_ er : Int) (Q : List SV → Prop) (h : Cl Tryz.prog 207 sP ([SV.agg [SL 1 bs, I at_, I er]]) (fun rs => ∃ b, (rs = [B b]) ∧ (ifB (bnot b) (Q [I 0]) (Q [I (wsub .i64 (rlen bs) at_)])))) : Ct Tryz.prog 149 {} [cu3 bs at_ er] Q :=
 fn_of (f := 149) SgT SvT (fun _ => none) Tryz.f149 Tryz.func149 (by kernel_rfl) (by kernel_rfl) h

theorem take_nf (bs : LL) (at_ er : Int) (n : Int) (Q : List SV → Prop) (h : Cl Tryz.prog 207 sP ([SV.agg [SL 1 bs, I at_, I er]]) (fun rs => ∃ b, (rs = [B b]) ∧ (ifB (bnot b) (ifB (bnot b) (Cl Tryz.prog 226 sP ([SV.agg [SL 1 bs, I at_, I er], I 1]) (fun rs1 => ∃ l x x1, (rs1 = [SV.agg [SL 1 l, I x, I x1]]) ∧ (Q ([SV.agg [SL 1 l, I x, I x1], SL 1 []])))) (Cl Tryz.prog 149 sP ([SV.agg [SL 1 bs, I at_, I er]]) (fun rs1 => ∃ x, (rs1 = [I x]) ∧ (ifB (igt n x) (Cl Tryz.prog 226 sP ([SV.agg [SL 1 bs, I at_, I er], I 10]) (fun rs2 => ∃ l x1 x2, (rs2 = [SV.agg [SL 1 l, I x1, I x2]]) ∧ (Q ([SV.agg [SL 1 l, I x1, I x2], SL 1 []])))) ((((0 : Int) ≤ at_) ∧ ((at_ ≤ (wadd .i64 at_ n)) ∧ ((wadd .i64 at_ n = wadd .i64 at_ n) ∧ ((wadd .i64 at_ n) ≤ (rlen bs))))) ∧ (Q ([SV.agg [SL 1 bs, I (wadd .i64 at_ n), I er], SL 1 (rsub bs at_ (wadd .i64 at_ n))]))))))) (ifB (ilt n 0) (Cl Tryz.prog 226 sP ([SV.agg [SL 1 bs, I at_, I er], I 1]) (fun rs1 => ∃ l x x1, (rs1 = [SV.agg [SL 1 l, I x, I x1]]) ∧ (Q ([SV.agg [SL 1 l, I x, I x1], SL 1 []])))) (Cl Tryz.prog 149 sP ([SV.agg [SL 1 bs, I at_, I er]]) (fun rs1 => ∃ x, (rs1 = [I x]) ∧ (ifB (igt n x) (Cl Tryz.prog 226 sP ([SV.agg [SL 1 bs, I at_, I er], I 10]) (fun rs2 => ∃ l x1 x2, (rs2 = [SV.agg [SL 1 l, I x1, I x2]]) ∧ (Q ([SV.agg [SL 1 l, I x1, I x2], SL 1 []])))) ((((0 : Int) ≤ at_) ∧ ((at_ ≤ (wadd .i64 at_ n)) ∧ ((wadd .i64 at_ n = wadd .i64 at_ n) ∧ ((wadd .i64 at_ n) ≤ (rlen bs))))) ∧ (Q ([SV.agg [SL 1 bs, I (wadd .i64 at_ n), I er], SL 1 (rsub bs at_ (wadd .i64 at_ n))])))))))))) : Ct Tryz.prog 243 {} [cu3 bs at_ er, I n] Q :=
 fn_of (f := 243) SgT SvT (fun _ => none) Tryz.f243 Tryz.func243 (by kernel_rfl) (by kernel_rfl) h

theorem start_nf (rows : LL) (Q : List SV → Prop) (h : (((0 : Int) ≤ 0) ∧ (((0 : Int) ≤ (rlen rows)) ∧ ((rlen rows = rlen rows) ∧ ((rlen rows) ≤ (rlen rows))))) ∧ (Q ([SV.agg [SL 1 (rsub rows 0 (rlen rows)), I 0, I 0]]))) : Ct Tryz.prog 146 {} [SL 1 rows] Q :=
 fn_of (f := 146) SgT SvT (fun _ => none) Tryz.f146 Tryz.func146 (by kernel_rfl) (by kernel_rfl) h

theorem text_nf (bs : LL) (at_ er : Int) (most : Int) (Q : List SV → Prop) (h : Cl Tryz.prog 197 sP ([SV.agg [SL 1 bs, I at_, I er]]) (fun rs => ∃ l x, ∃ x1 x2, (rs = [SV.agg [SL 1 l, I x, I x1], U64 x2]) ∧ (ifB (ine x1 0) (Q ([SV.agg [SL 1 l, I x, I x1], S (ByteArray.mk (Array.mk []))])) (ifB (ilt most 0) (ifB (ilt most 0) (Cl Tryz.prog 226 sP ([SV.agg [SL 1 bs, I at_, I er], I 9]) (fun rs1 => ∃ l1 x3 x4, (rs1 = [SV.agg [SL 1 l1, I x3, I x4]]) ∧ (Q ([SV.agg [SL 1 l1, I x3, I x4], S (ByteArray.mk (Array.mk []))])))) (Cl Tryz.prog 149 sP ([SV.agg [SL 1 l, I x, I x1]]) (fun rs1 => ∃ x3, (rs1 = [I x3]) ∧ (ifB (igt x2 (wcv .u64 x3)) (Cl Tryz.prog 226 sP ([SV.agg [SL 1 bs, I at_, I er], I 10]) (fun rs2 => ∃ l1 x4 x5, (rs2 = [SV.agg [SL 1 l1, I x4, I x5]]) ∧ (Q ([SV.agg [SL 1 l1, I x4, I x5], S (ByteArray.mk (Array.mk []))])))) (Cl Tryz.prog 243 sP ([SV.agg [SL 1 l, I x, I x1], I (wcv .i64 x2)]) (fun rs2 => ∃ l1 x4, ∃ x5 l2, (rs2 = [SV.agg [SL 1 l1, I x4, I x5], SL 1 l2]) ∧ ((isBytes l2) ∧ (Q ([SV.agg [SL 1 l1, I x4, I x5], S (bstr l2)]))))))))) (ifB (igt x2 (wcv .u64 most)) (Cl Tryz.prog 226 sP ([SV.agg [SL 1 bs, I at_, I er], I 9]) (fun rs1 => ∃ l1 x3 x4, (rs1 = [SV.agg [SL 1 l1, I x3, I x4]]) ∧ (Q ([SV.agg [SL 1 l1, I x3, I x4], S (ByteArray.mk (Array.mk []))])))) (Cl Tryz.prog 149 sP ([SV.agg [SL 1 l, I x, I x1]]) (fun rs1 => ∃ x3, (rs1 = [I x3]) ∧ (ifB (igt x2 (wcv .u64 x3)) (Cl Tryz.prog 226 sP ([SV.agg [SL 1 bs, I at_, I er], I 10]) (fun rs2 => ∃ l1 x4 x5, (rs2 = [SV.agg [SL 1 l1, I x4, I x5]]) ∧ (Q ([SV.agg [SL 1 l1, I x4, I x5], S (ByteArray.mk (Array.mk []))])))) (Cl Tryz.prog 243 sP ([SV.agg [SL 1 l, I x, I x1], I (wcv .i64 x2)]) (fun rs2 => ∃ l1 x4, ∃ x5 l2, (rs2 = [SV.agg [SL 1 l1, I x4, I x5], SL 1 l2]) ∧ ((isBytes l2) ∧ (Q ([SV.agg [SL 1 l1, I x4, I x5], S (bstr l2)]))))))))))))) : Ct Tryz.prog 231 {} [cu3 bs at_ er, I most] Q :=
 fn_of (f := 231) SgT SvT (fun _ => none) Tryz.f231 Tryz.func231 (by kernel_rfl) (by kernel_rfl) h

theorem less_nf (n : Int) (Q : List SV → Prop) (h : Q [B (ilt n 128)]) : Ct Tryz.prog 228 {} [U8 n] Q :=
 fn_of (f := 228) SgT SvT (fun _ => none) Tryz.f228 Tryz.func228 (by kernel_rfl) (by kernel_rfl) h

theorem indexB_nf (rows : LL) (f : FuncId) (cs : List SV) (Q : List SV → Prop) (h : ∃ Inv : Int → Int → Prop, ∃ m : Int → Int → Nat, (Inv 0 0) ∧ (∀ x x1, (Inv x x1) → ifB (ilt x1 (rlen rows)) ((((0 : Int) ≤ x1) ∧ (x1 < (rlen rows))) ∧ (∃ x2, (rget rows x1 = [U8 x2]) ∧ (Cl Tryz.prog f sP ((U8 x2) :: cs) (fun rs => ∃ b, (rs = [B b]) ∧ (ifB b (Q [I x1]) (((Option.some [] : Option (LL)) = Option.some []) ∧ ((Inv x (wadd .i64 x1 1)) ∧ (Nat.le (Nat.succ (m x (wadd .i64 x1 1))) (m x x1))))))))) (Q [I ((-1 : Int))]))) : Ct Tryz.prog 227 {} [SL 1 rows, .clo f cs] Q :=
 fn_of (f := 227) SgT SvT (fun _ => none) Tryz.f227 Tryz.func227 (by kernel_rfl) (by kernel_rfl) h

theorem qright_nf (bs : LL) (at_ er : Int) (Q : List SV → Prop) (h : Q [B (bpick (bpick (ieq er 0) (ige at_ 0) false) (ile at_ (rlen bs)) false)]) : Ct Tryz.prog 199 {} [cu3 bs at_ er] Q :=
 fn_of (f := 199) SgT SvT (fun _ => none) Tryz.f199 Tryz.func199 (by kernel_rfl) (by kernel_rfl) h

theorem stays_nf (bs : LL) (at_ er : Int) (e : Int) (Q : List SV → Prop) (h : ifB (ieq er 0) (Q ([SV.agg [SL 1 bs, I at_, I e]])) (Q ([SV.agg [SL 1 bs, I at_, I er]]))) : Ct Tryz.prog 200 {} [cu3 bs at_ er, I e] Q :=
 fn_of (f := 200) SgT SvT (fun _ => none) Tryz.f200 Tryz.func200 (by kernel_rfl) (by kernel_rfl) h

theorem ruint_nf (bs : LL) (at_ er : Int) (Q : List SV → Prop) (h : Cl Tryz.prog 199 sP ([SV.agg [SL 1 bs, I at_, I er]]) (fun rs => ∃ b, (rs = [B b]) ∧ (ifB (bnot b) (Cl Tryz.prog 200 sP ([SV.agg [SL 1 bs, I at_, I er], I 1]) (fun rs1 => ∃ l x x1, (rs1 = [SV.agg [SL 1 l, I x, I x1]]) ∧ (Q ([SV.agg [SL 1 l, I x, I x1], U64 0])))) (∃ Inv : Int → Int → Int → (LL) → Int → Int → (LL) → Int → Int → Prop, ∃ m : Int → Int → Int → (LL) → Int → Int → (LL) → Int → Int → Nat, (Inv 0 1 0 bs at_ er [] 0 0) ∧ (∀ x x1, ∀ x2 l, ∀ x3 x4, ∀ l1 x5 x6, (Inv x x1 x2 l x3 x4 l1 x5 x6) → ifB (ilt x2 10) (ifB (ige (wadd .i64 x3 x2) (rlen l)) (Cl Tryz.prog 200 sP ([SV.agg [SL 1 l, I x3, I x4], I 10]) (fun rs1 => ∃ l2 x7 x8, (rs1 = [SV.agg [SL 1 l2, I x7, I x8]]) ∧ (Q ([SV.agg [SL 1 l2, I x7, I x8], U64 0])))) ((((0 : Int) ≤ (wadd .i64 x3 x2)) ∧ ((wadd .i64 x3 x2) < (rlen l))) ∧ (∃ x7, (rget l (wadd .i64 x3 x2) = [U8 x7]) ∧ (ifB (ige x7 128) (((Option.some [] : Option (LL)) = Option.some []) ∧ ((Inv (wadd .u64 x (wmul .u64 x1 (wcv .u64 (wsub .u8 x7 128)))) (wmul .u64 x1 128) (wadd .i64 x2 1) l x3 x4 l1 x5 x6) ∧ (Nat.le (Nat.succ (m (wadd .u64 x (wmul .u64 x1 (wcv .u64 (wsub .u8 x7 128)))) (wmul .u64 x1 128) (wadd .i64 x2 1) l x3 x4 l1 x5 x6)) (m x x1 x2 l x3 x4 l1 x5 x6)))) (ifB (bpick (bpick (ieq x2 9) (igt x7 1) false) true (bpick (igt x2 0) (ieq x7 0) false)) (Cl Tryz.prog 200 sP ([SV.agg [SL 1 l, I x3, I x4], I 11]) (fun rs1 => ∃ l2 x8 x9, (rs1 = [SV.agg [SL 1 l2, I x8, I x9]]) ∧ (Q ([SV.agg [SL 1 l2, I x8, I x9], U64 0])))) (Q ([SV.agg [SL 1 l, I (wadd .i64 (wadd .i64 x3 x2) 1), I x4], U64 (wadd .u64 x (wmul .u64 x1 (wcv .u64 x7)))]))))))) (Cl Tryz.prog 200 sP ([SV.agg [SL 1 l, I x3, I x4], I 11]) (fun rs1 => ∃ l2 x7 x8, (rs1 = [SV.agg [SL 1 l2, I x7, I x8]]) ∧ (Q ([SV.agg [SL 1 l2, I x7, I x8], U64 0]))))))))) : Ct Tryz.prog 130 {} [cu3 bs at_ er] Q :=
 fn_of (f := 130) SgT SvT (fun k => bif Nat.beq k 13 then some { slots := [(4,false,[.int .u64]),(5,false,[.int .u64]),(6,false,[.int .i64])], boxes := [(128,[.sl 1,.int .i64,.int .i64]),(256,[.sl 1,.int .i64,.int .i64])] } else none) Tryz.f130 Tryz.func130 (by kernel_rfl) (by kernel_rfl) h

theorem rtake_nf (bs : LL) (at_ er : Int) (n : Int) (Q : List SV → Prop) (h : Cl Tryz.prog 199 sP ([SV.agg [SL 1 bs, I at_, I er]]) (fun rs => ∃ b, (rs = [B b]) ∧ (ifB (bpick (bnot b) true (ilt n 0)) (Cl Tryz.prog 200 sP ([SV.agg [SL 1 bs, I at_, I er], I 1]) (fun rs1 => ∃ l x x1, (rs1 = [SV.agg [SL 1 l, I x, I x1]]) ∧ (Q ([SV.agg [SL 1 l, I x, I x1], SL 1 []])))) (ifB (igt n (wsub .i64 (rlen bs) at_)) (Cl Tryz.prog 200 sP ([SV.agg [SL 1 bs, I at_, I er], I 10]) (fun rs1 => ∃ l x x1, (rs1 = [SV.agg [SL 1 l, I x, I x1]]) ∧ (Q ([SV.agg [SL 1 l, I x, I x1], SL 1 []])))) ((((0 : Int) ≤ at_) ∧ ((at_ ≤ (wadd .i64 at_ n)) ∧ ((wadd .i64 at_ n) ≤ (rlen bs)))) ∧ (((lsum (rlen []) (rlen (rsub bs at_ (wadd .i64 at_ n)))) ≤ ((2147483648 : Int))) ∧ (Q ([SV.agg [SL 1 bs, I (wadd .i64 at_ n), I er], SL 1 (rapp [] (rsub bs at_ (wadd .i64 at_ n)))])))))))) : Ct Tryz.prog 201 {} [cu3 bs at_ er, I n] Q :=
 fn_of (f := 201) SgT SvT (fun _ => none) Tryz.f201 Tryz.func201 (by kernel_rfl) (by kernel_rfl) h

theorem rtext_nf (bs : LL) (at_ er : Int) (most : Int) (Q : List SV → Prop) (h : Cl Tryz.prog 130 sP ([SV.agg [SL 1 bs, I at_, I er]]) (fun rs => ∃ l x, ∃ x1 x2, (rs = [SV.agg [SL 1 l, I x, I x1], U64 x2]) ∧ (ifB (ine x1 0) (Q ([SV.agg [SL 1 l, I x, I x1], S (ByteArray.mk (Array.mk []))])) (ifB (bpick (ilt most 0) true (igt x2 (wcv .u64 most))) (Cl Tryz.prog 200 sP ([SV.agg [SL 1 bs, I at_, I er], I 9]) (fun rs1 => ∃ l1 x3 x4, (rs1 = [SV.agg [SL 1 l1, I x3, I x4]]) ∧ (Q ([SV.agg [SL 1 l1, I x3, I x4], S (ByteArray.mk (Array.mk []))])))) (ifB (igt x2 (wcv .u64 (wsub .i64 (rlen l) x))) (Cl Tryz.prog 200 sP ([SV.agg [SL 1 bs, I at_, I er], I 10]) (fun rs1 => ∃ l1 x3 x4, (rs1 = [SV.agg [SL 1 l1, I x3, I x4]]) ∧ (Q ([SV.agg [SL 1 l1, I x3, I x4], S (ByteArray.mk (Array.mk []))])))) (Cl Tryz.prog 201 sP ([SV.agg [SL 1 l, I x, I x1], I (wcv .i64 x2)]) (fun rs1 => ∃ l1 x3, ∃ x4 l2, (rs1 = [SV.agg [SL 1 l1, I x3, I x4], SL 1 l2]) ∧ ((isBytes l2) ∧ (Q ([SV.agg [SL 1 l1, I x3, I x4], S (bstr l2)])))))))))) : Ct Tryz.prog 131 {} [cu3 bs at_ er, I most] Q :=
 fn_of (f := 131) SgT SvT (fun _ => none) Tryz.f131 Tryz.func131 (by kernel_rfl) (by kernel_rfl) h

theorem bequal_nf (rows : LL) (rows2 : LL) (Q : List SV → Prop) (h : (isBytes rows) ∧ ((isBytes rows2) ∧ (Q [B (seq (bstr rows) (bstr rows2))]))) : Ct Tryz.prog 129 {} [SL 1 rows, SL 1 rows2] Q :=
 fn_of (f := 129) SgT SvT (fun _ => none) Tryz.f129 Tryz.func129 (by kernel_rfl) (by kernel_rfl) h

theorem uint_nf (bs : LL) (at_ er : Int) (Q : List SV → Prop) (h : Cl Tryz.prog 207 sP ([SV.agg [SL 1 bs, I at_, I er]]) (fun rs => ∃ b, (rs = [B b]) ∧ (ifB (bnot b) (Cl Tryz.prog 226 sP ([SV.agg [SL 1 bs, I at_, I er], I 1]) (fun rs1 => ∃ l x x1, (rs1 = [SV.agg [SL 1 l, I x, I x1]]) ∧ (Q ([SV.agg [SL 1 l, I x, I x1], U64 0])))) ((((0 : Int) ≤ at_) ∧ ((at_ ≤ (rlen bs)) ∧ ((rlen bs) ≤ (rlen bs)))) ∧ ((((0 : Int) ≤ 0) ∧ (((0 : Int) ≤ (imin (rlen (rsub bs at_ (rlen bs))) 10)) ∧ ((imin (rlen (rsub bs at_ (rlen bs))) 10) ≤ (rlen (rsub bs at_ (rlen bs)))))) ∧ (Cl Tryz.prog 227 sP ([SV.slice 1 (rsub (rsub bs at_ (rlen bs)) 0 (imin (rlen (rsub bs at_ (rlen bs))) 10)) 0, SV.clo 228 []]) (fun rs1 => ∃ x, (rs1 = [I x]) ∧ (ifB (bpick (ilt x 0) (ilt (rlen (rsub (rsub bs at_ (rlen bs)) 0 (imin (rlen (rsub bs at_ (rlen bs))) 10))) 10) false) (Cl Tryz.prog 226 sP ([SV.agg [SL 1 bs, I at_, I er], I 10]) (fun rs2 => ∃ l x1 x2, (rs2 = [SV.agg [SL 1 l, I x1, I x2]]) ∧ (Q ([SV.agg [SL 1 l, I x1, I x2], U64 0])))) (ifB (ilt x 0) (ifB (ilt x 0) (Cl Tryz.prog 226 sP ([SV.agg [SL 1 bs, I at_, I er], I 11]) (fun rs2 => ∃ l x1 x2, (rs2 = [SV.agg [SL 1 l, I x1, I x2]]) ∧ (Q ([SV.agg [SL 1 l, I x1, I x2], U64 0])))) ((((0 : Int) ≤ 0) ∧ (((0 : Int) ≤ (wadd .i64 x 1)) ∧ ((wadd .i64 x 1) ≤ (rlen (rsub (rsub bs at_ (rlen bs)) 0 (imin (rlen (rsub bs at_ (rlen bs))) 10)))))) ∧ (Cl Tryz.prog 229 sP [SV.slice 1 (rsub (rsub (rsub bs at_ (rlen bs)) 0 (imin (rlen (rsub bs at_ (rlen bs))) 10)) 0 (wadd .i64 x 1)) 0] (fun rs2 => ∃ f, ∃ rs3 : List SV, (rs2 = [SV.clo f rs3]) ∧ (∃ l, (f = 239) ∧ ((rs3 = [SV.ref 0 [SL 1 l]]) ∧ ((isBytes l) ∧ ((0 < (rlen l)) ∧ (((rlen l) ≤ 100) ∧ (Q ([SV.agg [SL 1 bs, I (wadd .i64 at_ (wadd .i64 x 1)), I er], U64 (ufold 0 l)]))))))))))) (ifB (ieq x 9) ((((0 : Int) ≤ x) ∧ (x < (rlen (rsub (rsub bs at_ (rlen bs)) 0 (imin (rlen (rsub bs at_ (rlen bs))) 10))))) ∧ (∃ x1, (rget (rsub (rsub bs at_ (rlen bs)) 0 (imin (rlen (rsub bs at_ (rlen bs))) 10)) x = [U8 x1]) ∧ (ifB (bpick true (igt x1 1) false) (ifB (bpick true (igt x1 1) false) (Cl Tryz.prog 226 sP ([SV.agg [SL 1 bs, I at_, I er], I 11]) (fun rs2 => ∃ l x2 x3, (rs2 = [SV.agg [SL 1 l, I x2, I x3]]) ∧ (Q ([SV.agg [SL 1 l, I x2, I x3], U64 0])))) ((((0 : Int) ≤ 0) ∧ (((0 : Int) ≤ (wadd .i64 x 1)) ∧ ((wadd .i64 x 1) ≤ (rlen (rsub (rsub bs at_ (rlen bs)) 0 (imin (rlen (rsub bs at_ (rlen bs))) 10)))))) ∧ (Cl Tryz.prog 229 sP [SV.slice 1 (rsub (rsub (rsub bs at_ (rlen bs)) 0 (imin (rlen (rsub bs at_ (rlen bs))) 10)) 0 (wadd .i64 x 1)) 0] (fun rs2 => ∃ f, ∃ rs3 : List SV, (rs2 = [SV.clo f rs3]) ∧ (∃ l, (f = 239) ∧ ((rs3 = [SV.ref 0 [SL 1 l]]) ∧ ((isBytes l) ∧ ((0 < (rlen l)) ∧ (((rlen l) ≤ 100) ∧ (Q ([SV.agg [SL 1 bs, I (wadd .i64 at_ (wadd .i64 x 1)), I er], U64 (ufold 0 l)]))))))))))) (ifB (igt x 0) ((((0 : Int) ≤ x) ∧ (x < (rlen (rsub (rsub bs at_ (rlen bs)) 0 (imin (rlen (rsub bs at_ (rlen bs))) 10))))) ∧ (∃ x2, (rget (rsub (rsub bs at_ (rlen bs)) 0 (imin (rlen (rsub bs at_ (rlen bs))) 10)) x = [U8 x2]) ∧ (ifB (bpick true (ieq x2 0) false) (Cl Tryz.prog 226 sP ([SV.agg [SL 1 bs, I at_, I er], I 11]) (fun rs2 => ∃ l x3 x4, (rs2 = [SV.agg [SL 1 l, I x3, I x4]]) ∧ (Q ([SV.agg [SL 1 l, I x3, I x4], U64 0])))) ((((0 : Int) ≤ 0) ∧ (((0 : Int) ≤ (wadd .i64 x 1)) ∧ ((wadd .i64 x 1) ≤ (rlen (rsub (rsub bs at_ (rlen bs)) 0 (imin (rlen (rsub bs at_ (rlen bs))) 10)))))) ∧ (Cl Tryz.prog 229 sP [SV.slice 1 (rsub (rsub (rsub bs at_ (rlen bs)) 0 (imin (rlen (rsub bs at_ (rlen bs))) 10)) 0 (wadd .i64 x 1)) 0] (fun rs2 => ∃ f, ∃ rs3 : List SV, (rs2 = [SV.clo f rs3]) ∧ (∃ l, (f = 239) ∧ ((rs3 = [SV.ref 0 [SL 1 l]]) ∧ ((isBytes l) ∧ ((0 < (rlen l)) ∧ (((rlen l) ≤ 100) ∧ (Q ([SV.agg [SL 1 bs, I (wadd .i64 at_ (wadd .i64 x 1)), I er], U64 (ufold 0 l)]))))))))))))) ((((0 : Int) ≤ 0) ∧ (((0 : Int) ≤ (wadd .i64 x 1)) ∧ ((wadd .i64 x 1) ≤ (rlen (rsub (rsub bs at_ (rlen bs)) 0 (imin (rlen (rsub bs at_ (rlen bs))) 10)))))) ∧ (Cl Tryz.prog 229 sP [SV.slice 1 (rsub (rsub (rsub bs at_ (rlen bs)) 0 (imin (rlen (rsub bs at_ (rlen bs))) 10)) 0 (wadd .i64 x 1)) 0] (fun rs2 => ∃ f, ∃ rs3 : List SV, (rs2 = [SV.clo f rs3]) ∧ (∃ l, (f = 239) ∧ ((rs3 = [SV.ref 0 [SL 1 l]]) ∧ ((isBytes l) ∧ ((0 < (rlen l)) ∧ (((rlen l) ≤ 100) ∧ (Q ([SV.agg [SL 1 bs, I (wadd .i64 at_ (wadd .i64 x 1)), I er], U64 (ufold 0 l)])))))))))))))) (ifB (igt x 0) ((((0 : Int) ≤ x) ∧ (x < (rlen (rsub (rsub bs at_ (rlen bs)) 0 (imin (rlen (rsub bs at_ (rlen bs))) 10))))) ∧ (∃ x1, (rget (rsub (rsub bs at_ (rlen bs)) 0 (imin (rlen (rsub bs at_ (rlen bs))) 10)) x = [U8 x1]) ∧ (ifB (bpick true (ieq x1 0) false) (Cl Tryz.prog 226 sP ([SV.agg [SL 1 bs, I at_, I er], I 11]) (fun rs2 => ∃ l x2 x3, (rs2 = [SV.agg [SL 1 l, I x2, I x3]]) ∧ (Q ([SV.agg [SL 1 l, I x2, I x3], U64 0])))) ((((0 : Int) ≤ 0) ∧ (((0 : Int) ≤ (wadd .i64 x 1)) ∧ ((wadd .i64 x 1) ≤ (rlen (rsub (rsub bs at_ (rlen bs)) 0 (imin (rlen (rsub bs at_ (rlen bs))) 10)))))) ∧ (Cl Tryz.prog 229 sP [SV.slice 1 (rsub (rsub (rsub bs at_ (rlen bs)) 0 (imin (rlen (rsub bs at_ (rlen bs))) 10)) 0 (wadd .i64 x 1)) 0] (fun rs2 => ∃ f, ∃ rs3 : List SV, (rs2 = [SV.clo f rs3]) ∧ (∃ l, (f = 239) ∧ ((rs3 = [SV.ref 0 [SL 1 l]]) ∧ ((isBytes l) ∧ ((0 < (rlen l)) ∧ (((rlen l) ≤ 100) ∧ (Q ([SV.agg [SL 1 bs, I (wadd .i64 at_ (wadd .i64 x 1)), I er], U64 (ufold 0 l)]))))))))))))) ((((0 : Int) ≤ 0) ∧ (((0 : Int) ≤ (wadd .i64 x 1)) ∧ ((wadd .i64 x 1) ≤ (rlen (rsub (rsub bs at_ (rlen bs)) 0 (imin (rlen (rsub bs at_ (rlen bs))) 10)))))) ∧ (Cl Tryz.prog 229 sP [SV.slice 1 (rsub (rsub (rsub bs at_ (rlen bs)) 0 (imin (rlen (rsub bs at_ (rlen bs))) 10)) 0 (wadd .i64 x 1)) 0] (fun rs2 => ∃ f, ∃ rs3 : List SV, (rs2 = [SV.clo f rs3]) ∧ (∃ l, (f = 239) ∧ ((rs3 = [SV.ref 0 [SL 1 l]]) ∧ ((isBytes l) ∧ ((0 < (rlen l)) ∧ (((rlen l) ≤ 100) ∧ (Q ([SV.agg [SL 1 bs, I (wadd .i64 at_ (wadd .i64 x 1)), I er], U64 (ufold 0 l)]))))))))))))))))))))) : Ct Tryz.prog 197 {} [cu3 bs at_ er] Q :=
 uint_of SgT SvT (fun _ => none) (by kernel_rfl) h

theorem backw_nf (rows : LL) (Q : List SV → Prop) (h : Q ([SV.clo 239 ([SV.ref 0 [SL 1 rows]])])) : Ct Tryz.prog 229 {} [SL 1 rows] Q :=
 fn_of (f := 229) SgT SvT (fun _ => none) Tryz.f229 Tryz.func229 (by kernel_rfl) (by kernel_rfl) h


def Byts (l : List Int) : Prop := ∀ x ∈ l, 0 ≤ x ∧ x ≤ 255

theorem isBytes_bR {l : List Int} (h : Byts l) : isBytes (bR l) := by
 intro r hr
 obtain ⟨n, hn, rfl⟩ := List.mem_map.1 hr
 have := h n hn
 exact ⟨n, rfl, this.1, by omega⟩

theorem Byts.sub {l m : List Int} (h : Byts l) (hs : ∀ x ∈ m, x ∈ l) : Byts m := fun x hx => h x (hs x hx)
theorem Byts.app {l m : List Int} (h : Byts l) (k : Byts m) : Byts (l ++ m) := fun x hx => (List.mem_append.1 hx).elim (h x) (k x)
theorem byts_leb (n : Nat) : Byts (leb n) := leb_byte n
theorem byts_tx (t : ByteArray) : Byts (txB t) := fun x hx => txB_byte x hx

def byAt (l : List Int) (i : Int) : Int := l.getD i.toNat 0
theorem rget_bR {l : List Int} {i : Int} (h0 : 0 ≤ i) (h1 : i < l.length) : rget (bR l) i = [U8 (byAt l i)] := by
 have : i.toNat < l.length := by omega
 simp [rget, byAt, this]

theorem rsub_bR (l : List Int) (a b : Int) : rsub (bR l) a b = bR ((l.take b.toNat).drop a.toNat) := by
 simp [rsub, bR, List.map_take, List.map_drop]

def rgtC (l : List Int) (a er : Int) : Bool := decide (0 ≤ a ∧ a ≤ l.length ∧ er = 0)

theorem right_fn (l : List Int) (a er : Int) : Ct Tryz.prog 207 {} [cu3 (bR l) a er] (fun r => r = [B (rgtC l a er)]) := by
 refine right_nf _ _ _ _ ?_
 have : bpick (bpick (ige a 0) (ile a (rlen (bR l))) false) (ieq er 0) false = rgtC l a er := by
  rw [Bool.eq_iff_iff]; simp [rgtC, and_assoc]
 rw [this]
theorem qright_fn (l : List Int) (a er : Int) : Ct Tryz.prog 199 {} [cu3 (bR l) a er] (fun r => r = [B (rgtC l a er)]) := by
 refine qright_nf _ _ _ _ ?_
 have : bpick (bpick (ieq er 0) (ige a 0) false) (ile a (rlen (bR l))) false = rgtC l a er := by
  rw [Bool.eq_iff_iff]; simp [rgtC]; omega
 rw [this]

def styE (er e : Int) : Int := if er = 0 then e else er
theorem stay_fn (l : List Int) (a er e : Int) : Ct Tryz.prog 226 {} [cu3 (bR l) a er, I e] (fun r => r = [cu3 (bR l) a (styE er e)]) := by
 refine stay_nf _ _ _ _ _ (ifB_intro (fun h => ?_) (fun h => ?_))
 ·simp at h; simp [styE, h]
 ·simp at h; simp [styE, h]
theorem stays_fn (l : List Int) (a er e : Int) : Ct Tryz.prog 200 {} [cu3 (bR l) a er, I e] (fun r => r = [cu3 (bR l) a (styE er e)]) := by
 refine stays_nf _ _ _ _ _ (ifB_intro (fun h => ?_) (fun h => ?_))
 ·simp at h; simp [styE, h]
 ·simp at h; simp [styE, h]

theorem left_fn (l : List Int) (a er : Int) (hl : l.length ≤ 100000) : Ct Tryz.prog 149 {} [cu3 (bR l) a er] (fun r => r = [I (if rgtC l a er = true then l.length - a else 0)]) := by
 refine left_nf _ _ _ _ (Cl.of (right_fn l a er) ⟨_, rfl, ifB_intro (fun h => ?_) (fun h => ?_)⟩)
 ·simp at h; simp [h]
 ·simp at h
  have hr : rgtC l a er = true := by simpa using h
  have hr2 := hr
  simp [rgtC] at hr2
  have : wsub IntKind.i64 (rlen (bR l)) a = l.length - a := by rw [rlen_bR]; exact wsub_i64 (by omega) (by omega)
  simp only [hr, this, if_true]

theorem start_fn (l : List Int) : Ct Tryz.prog 146 {} [SL 1 (bR l)] (fun r => r = [cu3 (bR l) 0 0]) := by
 refine start_nf _ _ ⟨by simp, ?_⟩
 rw [rsub_bR]
 simp

structure TOut (l : List Int) (a er n a' er' : Int) (bs : List Int) : Prop where
 mem : ∀ x ∈ bs, x ∈ l
 good : er = 0 → 0 ≤ a → 0 ≤ n → a + n ≤ l.length → a' = a + n ∧ er' = 0 ∧ bs = (l.drop a.toNat).take n.toNat

theorem TOut.bad {l : List Int} {a er n a' er' : Int} (h : er = 0 → 0 ≤ a → 0 ≤ n → ¬ a + n ≤ l.length) : TOut l a er n a' er' [] := ⟨by simp, fun h1 h2 h3 h4 => absurd h4 (h h1 h2 h3)⟩

theorem take_sub (l : List Int) (a n : Int) (h0 : 0 ≤ a) (h1 : 0 ≤ n) (h2 : a + n ≤ l.length) : (l.take (a + n).toNat).drop a.toNat = (l.drop a.toNat).take n.toNat := by
 rw [List.drop_take]
 congr 1; omega

theorem take_fn (l : List Int) (a er n : Int) (hl : l.length ≤ 100000) (hn : n ≤ 1000000) (hn0 : -1000000 ≤ n) : Ct Tryz.prog 243 {} [cu3 (bR l) a er, I n] (fun r => ∃ a' er' bs, r = [cu3 (bR l) a' er', SL 1 (bR bs)] ∧ TOut l a er n a' er' bs) := by
 refine take_nf _ _ _ _ _ (Cl.of (right_fn l a er) ⟨_, rfl, ?_⟩)
 have hr : rgtC l a er = true ↔ 0 ≤ a ∧ a ≤ l.length ∧ er = 0 := by simp [rgtC]
 have stayed : ∀ e : Int, (er = 0 → 0 ≤ a → 0 ≤ n → ¬ a + n ≤ l.length) → Cl Tryz.prog 226 sP ([SV.agg [SL 1 (bR l), I a, I er], I e]) (fun (rs1 : List SV) => ∃ l_1 : List (List SV), ∃ x : Int, ∃ x1 : Int, (rs1 = [SV.agg [SL 1 l_1, I x, I x1]]) ∧ (∃ a' er' bs, ([SV.agg [SL 1 l_1, I x, I x1], SL 1 []] : List SV) = [cu3 (bR l) a' er', SL 1 (bR bs)] ∧ TOut l a er n a' er' bs)) := fun e he =>
  Cl.of (stay_fn l a er e) ⟨_, _, _, rfl, _, _, [], rfl, TOut.bad he⟩
 refine ifB_intro (fun h => ifB_intro (fun h => ?_) (fun h' => ?_)) (fun h => ifB_intro (fun h1 => ?_) (fun h1 => ?_))
 ·simp at h
  exact stayed 1 (fun e h1 h2 h3 => by rw [Bool.eq_false_iff, ne_eq, hr] at h; omega)
 ·rw [h] at h'; cases h'
 ·simp at h1
  exact stayed 1 (fun e h2 h3 => by omega)
 ·simp at h h1
  have h := hr.1 h
  refine Cl.of (left_fn l a er hl) ⟨_, rfl, ?_⟩
  rw [if_pos (hr.2 h)]
  refine ifB_intro (fun h2 => ?_) (fun h2 => ?_)
  ·simp at h2
   exact stayed 10 (fun e h3 h4 => by omega)
  ·simp at h2
   have w : wadd IntKind.i64 a n = a + n := wadd_i64 (by omega) (by omega)
   rw [w]
   refine ⟨⟨by omega, by omega, rfl, by simp; omega⟩, a + n, er, _, by rw [rsub_bR], ⟨fun x hx => List.mem_of_mem_take (List.mem_of_mem_drop hx), fun _ _ _ h4 => ⟨rfl, h.2.2, take_sub l a n h.1 h1 h4⟩⟩⟩

theorem rtake_fn (l : List Int) (a er n : Int) (hl : l.length ≤ 100000) (hn : n ≤ 1000000) (hn0 : -1000000 ≤ n) : Ct Tryz.prog 201 {} [cu3 (bR l) a er, I n] (fun r => ∃ a' er' bs, r = [cu3 (bR l) a' er', SL 1 (bR bs)] ∧ TOut l a er n a' er' bs) := by
 refine rtake_nf _ _ _ _ _ (Cl.of (qright_fn l a er) ⟨_, rfl, ?_⟩)
 have hr : rgtC l a er = true ↔ 0 ≤ a ∧ a ≤ l.length ∧ er = 0 := by simp [rgtC]
 have stayed : ∀ e : Int, (er = 0 → 0 ≤ a → 0 ≤ n → ¬ a + n ≤ l.length) → Cl Tryz.prog 200 sP ([SV.agg [SL 1 (bR l), I a, I er], I e]) (fun (rs1 : List SV) => ∃ l_1 : List (List SV), ∃ x : Int, ∃ x1 : Int, (rs1 = [SV.agg [SL 1 l_1, I x, I x1]]) ∧ (∃ a' er' bs, ([SV.agg [SL 1 l_1, I x, I x1], SL 1 []] : List SV) = [cu3 (bR l) a' er', SL 1 (bR bs)] ∧ TOut l a er n a' er' bs)) := fun e he =>
  Cl.of (stays_fn l a er e) ⟨_, _, _, rfl, _, _, [], rfl, TOut.bad he⟩
 refine ifB_intro (fun h => ?_) (fun h => ?_)
 ·refine stayed 1 (fun e h1 h2 h3 => ?_)
  simp only [bor_t, bnot_eq, Bool.not_eq_true', ilt_eq, decide_eq_true_eq] at h
  rcases h with h | h
  ·rw [Bool.eq_false_iff, ne_eq, hr] at h; omega
  ·omega
 ·simp only [bor_f, bnot_eq, Bool.not_eq_false', ilt_eq, decide_eq_false_iff_not] at h
  have h1 := h.2
  have h := hr.1 h.1
  have w0 : wsub IntKind.i64 (rlen (bR l)) a = l.length - a := by rw [rlen_bR]; exact wsub_i64 (by omega) (by omega)
  rw [w0]
  refine ifB_intro (fun h2 => ?_) (fun h2 => ?_)
  ·simp at h2
   exact stayed 10 (fun e h3 h4 => by omega)
  ·simp at h2
   have w : wadd IntKind.i64 a n = a + n := wadd_i64 (by omega) (by omega)
   rw [w, rsub_bR]
   refine ⟨⟨by omega, by omega, by simp; omega⟩, ?_, a + n, er, _, by simp [rapp], ⟨fun x hx => List.mem_of_mem_take (List.mem_of_mem_drop hx), fun _ _ _ h4 => ⟨rfl, h.2.2, take_sub l a n h.1 (by omega) h4⟩⟩⟩
   simp
   omega

structure UOut (l : List Int) (a er a' er' n : Int) : Prop where
 n0 : 0 ≤ n
 n1 : n ≤ 18446744073709551615
 good : er = 0 → 0 ≤ a → ∀ (m : Nat) rest, l.drop a.toNat = leb m ++ rest → m < 18446744073709551616 → a' = a + (leb m).length ∧ er' = 0 ∧ n = m

theorem UOut.bad {l : List Int} {a er a' er' : Int} (h : er = 0 → 0 ≤ a → ∀ (m : Nat) rest, l.drop a.toNat = leb m ++ rest → m < 18446744073709551616 → False) : UOut l a er a' er' 0 :=
 ⟨by omega, by omega, fun h1 h2 m rest h3 h4 => (h h1 h2 m rest h3 h4).elim⟩

theorem drop_lt {l : List Int} {a : Int} {m : Nat} {rest : List Int} (h : l.drop a.toNat = leb m ++ rest) : a.toNat + (leb m).length ≤ l.length := by
 have := congrArg List.length h
 have := leb_pos m
 simp at *
 omega

theorem wrapU64_range (x : Int) : 0 ≤ IntKind.u64.wrap x ∧ IntKind.u64.wrap x ≤ 18446744073709551615 := by
 simp only [IntKind.wrap, IntKind.signed, IntKind.bits]
 simp
 omega

theorem ruint_fn (l : List Int) (a er : Int) (hl : l.length ≤ 100000) (hb : Byts l) : Ct Tryz.prog 130 {} [cu3 (bR l) a er] (fun r => ∃ a' er' n, r = [cu3 (bR l) a' er', U64 n] ∧ UOut l a er a' er' n) := by
 refine ruint_nf _ _ _ _ (Cl.of (qright_fn l a er) ⟨_, rfl, ?_⟩)
 have hr : rgtC l a er = true ↔ 0 ≤ a ∧ a ≤ l.length ∧ er = 0 := by simp [rgtC]
 refine ifB_intro (fun h => ?_) (fun h => ?_)
 ·simp at h
  refine Cl.of (stays_fn l a er 1) ⟨_, _, _, rfl, _, _, _, rfl, UOut.bad (fun h1 h2 m rest h3 h4 => ?_)⟩
  rw [Bool.eq_false_iff, ne_eq, hr] at h
  have := drop_lt h3
  omega
 ·simp at h
  have h := hr.1 h
  refine ⟨fun x x1 x2 rows x3 x4 _ _ _ => rows = bR l ∧ x3 = a ∧ x4 = er ∧ 0 ≤ x2 ∧ x2 ≤ 10 ∧ 0 ≤ x ∧ x ≤ 18446744073709551615 ∧
    ∀ (m : Nat) rest, l.drop a.toNat = leb m ++ rest → m < 18446744073709551616 → ∃ q : Nat, l.drop (a + x2).toNat = leb q ++ rest ∧ (m : Int) = x + x1 * q ∧ x1 = 128 ^ x2.toNat ∧ (leb m).length = x2 + (leb q).length ∧ (0 < x2 → q ≠ 0),
   fun _ _ x2 _ _ _ _ _ _ => (10 - x2).toNat, ⟨rfl, rfl, rfl, by omega, by omega, by omega, by omega, fun m rest h1 h2 => ⟨m, by simpa using h1, by simp, by simp, by simp, by simp⟩⟩, ?_⟩
  rintro x x1 x2 rows x3 x4 _ _ _ ⟨rfl, rfl, rfl, i0, i1, j0, j1, hg⟩
  have w : wadd IntKind.i64 x3 x2 = x3 + x2 := wadd_i64 (by omega) (by omega)
  refine ifB_intro (fun h2 => ?_) (fun h2 => ?_)
  ·simp at h2
   rw [w]
   refine ifB_intro (fun h3 => ?_) (fun h3 => ?_)
   ·simp at h3
    refine Cl.of (stays_fn l x3 x4 10) ⟨_, _, _, rfl, _, _, _, rfl, UOut.bad (fun _ _ m rest g1 g2 => ?_)⟩
    obtain ⟨q, e1, _⟩ := hg m rest g1 g2
    have := drop_lt e1
    have := leb_pos q
    omega
   ·simp at h3
    have hbx := hb (byAt l (x3 + x2)) (by
     have : (x3 + x2).toNat < l.length := by omega
     simp [byAt, this])
    have hd : l.drop (x3 + x2).toNat = byAt l (x3 + x2) :: l.drop (x3 + x2 + 1).toNat := by
     have : (x3 + x2).toNat < l.length := by omega
     rw [show (x3 + x2 + 1).toNat = (x3 + x2).toNat + 1 by omega, List.drop_eq_getElem_cons this]
     simp [byAt, this]
    refine ⟨⟨by omega, by simp; omega⟩, _, rget_bR (by omega) (by omega), ?_⟩
    generalize byAt l (x3 + x2) = y at hbx hd
    refine ifB_intro (fun h4 => ?_) (fun h4 => ?_)
    ·simp at h4
     refine ⟨rfl, ⟨rfl, rfl, rfl, ?_, ?_, (wrapU64_range _).1, (wrapU64_range _).2, fun m rest g1 g2 => ?_⟩, ?_⟩
     ·rw [wadd_i64 (by omega) (by omega)]; omega
     ·rw [wadd_i64 (by omega) (by omega)]; omega
     ·obtain ⟨q, e1, e2, e3, e4, e5⟩ := hg m rest g1 g2
      rw [hd] at e1
      by_cases hq : q < 128
      ·rw [leb_lt hq] at e1
       simp at e1
       omega
      ·have hq : 128 ≤ q := Nat.le_of_not_lt hq
       rw [leb_ge hq] at e1
       simp only [List.cons_append, List.cons.injEq] at e1
       have w2 : wadd IntKind.i64 x2 1 = x2 + 1 := wadd_i64 (by omega) (by omega)
       rw [w2]
       have hx1 : 0 < x1 := by rw [e3]; exact Int.pow_pos (by omega)
       have hq2 : (q : Int) = 128 * ((q / 128 : Nat) : Int) + ((q % 128 : Nat) : Int) := by omega
       have hm : (m : Int) = x + x1 * ((q % 128 : Nat) : Int) + x1 * 128 * ((q / 128 : Nat) : Int) := by
        rw [e2]
        conv => lhs; rw [hq2]
        rw [Int.mul_add, ← Int.mul_assoc]; omega
       have hnn1 : 0 ≤ x1 * ((q % 128 : Nat) : Int) := Int.mul_nonneg (by omega) (by omega)
       have hnn2 : x1 * 128 ≤ x1 * 128 * ((q / 128 : Nat) : Int) := by
        have h5 : (1 : Int) ≤ ((q / 128 : Nat) : Int) := by omega
        have := Int.mul_le_mul_of_nonneg_left h5 (show 0 ≤ x1 * 128 by omega)
        omega
       have s1 : wsub IntKind.u8 y 128 = y - 128 := by
        have := wcvU8 (y - 128) (by omega)
        simp only [wcv] at this
        rw [wsub, this]; omega
       have s2 : y - 128 = ((q % 128 : Nat) : Int) := by omega
       rw [s1, wcvU64 (by omega) (by omega), s2]
       have s3 : wmul IntKind.u64 x1 ((q % 128 : Nat) : Int) = x1 * ((q % 128 : Nat) : Int) := wrapU64 (by omega) (by omega)
       have s4 : wmul IntKind.u64 x1 128 = x1 * 128 := wrapU64 (by omega) (by omega)
       have s5 : wadd IntKind.u64 x (x1 * ((q % 128 : Nat) : Int)) = x + x1 * ((q % 128 : Nat) : Int) := wrapU64 (by omega) (by omega)
       rw [s3, s4, s5]
       refine ⟨q / 128, ?_, by omega, ?_, ?_, fun _ => by omega⟩
       ·rw [show x3 + (x2 + 1) = x3 + x2 + 1 by omega]; exact e1.2
       ·rw [e3, show (x2 + 1).toNat = x2.toNat + 1 by omega, Int.pow_succ]
       ·rw [leb_ge hq] at e4; simp at e4; omega
     ·rw [wadd_i64 (by omega) (by omega)]
      exact mlt (by dsimp only; omega)
    ·simp at h4
     refine ifB_intro (fun h5 => ?_) (fun h5 => ?_)
     ·refine Cl.of (stays_fn l x3 x4 11) ⟨_, _, _, rfl, _, _, _, rfl, UOut.bad (fun _ _ m rest g1 g2 => ?_)⟩
      obtain ⟨q, e1, e2, e3, e4, e5⟩ := hg m rest g1 g2
      rw [hd] at e1
      by_cases hq : q < 128
      ·rw [leb_lt hq] at e1
       simp at e1
       simp at h5
       rcases h5 with ⟨g3, g4⟩ | ⟨g3, g4⟩
       ·have h9 : x2.toNat = 9 := by omega
        rw [h9] at e3
        have h63 : x1 = 9223372036854775808 := by rw [e3]; rfl
        rw [h63] at e2
        omega
       ·exact e5 g3 (by omega)
      ·have hq : 128 ≤ q := Nat.le_of_not_lt hq
       rw [leb_ge hq] at e1
       simp only [List.cons_append, List.cons.injEq] at e1
       omega
     ·refine ⟨_, _, _, rfl, (wrapU64_range _).1, (wrapU64_range _).2, fun _ _ m rest g1 g2 => ?_⟩
      obtain ⟨q, e1, e2, e3, e4, e5⟩ := hg m rest g1 g2
      rw [hd] at e1
      by_cases hq : q < 128
      ·rw [leb_lt hq] at e1 e4
       simp at e1 e4
       have hx1 : 0 < x1 := by rw [e3]; exact Int.pow_pos (by omega)
       have hnn1 : 0 ≤ x1 * (q : Int) := Int.mul_nonneg (by omega) (by omega)
       rw [wadd_i64 (by omega) (by omega), wcvU64 (by omega) (by omega), e1.1]
       have s3 : wmul IntKind.u64 x1 (q : Int) = x1 * (q : Int) := wrapU64 (by omega) (by omega)
       have s5 : wadd IntKind.u64 x (x1 * (q : Int)) = x + x1 * (q : Int) := wrapU64 (by omega) (by omega)
       rw [s3, s5]
       exact ⟨by omega, h.2.2, by omega⟩
      ·have hq : 128 ≤ q := Nat.le_of_not_lt hq
       rw [leb_ge hq] at e1
       simp only [List.cons_append, List.cons.injEq] at e1
       omega
  ·simp at h2
   refine Cl.of (stays_fn l x3 x4 11) ⟨_, _, _, rfl, _, _, _, rfl, UOut.bad (fun _ _ m rest g1 g2 => ?_)⟩
   obtain ⟨q, e1, e2, e3, e4, e5⟩ := hg m rest g1 g2
   have hq := e5 (by omega)
   have h10 : x2.toNat = 10 := by omega
   rw [h10] at e3
   have h70 : x1 = 1180591620717411303424 := by rw [e3]; rfl
   rw [h70] at e2
   omega


theorem less_fn (n : Int) : Ct Tryz.prog 228 {} [U8 n] (fun r => r = [B (decide (n < 128))]) := less_nf _ _ rfl

theorem indexB_fn (l : List Int) (hl : l.length ≤ 100000) : Ct Tryz.prog 227 {} [SL 1 (bR l), .clo 228 []] (fun r => ∃ x : Int, r = [I x] ∧ ((x = -1 ∧ ∀ y ∈ l, 128 ≤ y) ∨ (0 ≤ x ∧ x < l.length ∧ byAt l x < 128 ∧ ∀ j : Nat, j < x.toNat → 128 ≤ l.getD j 0))) := by
 refine indexB_nf _ _ _ _ ⟨fun _ x => 0 ≤ x ∧ x ≤ l.length ∧ ∀ j : Nat, j < x.toNat → 128 ≤ l.getD j 0, fun _ x => (l.length - x).toNat, ⟨by omega, by omega, by simp⟩, ?_⟩
 rintro _ x ⟨h0, h1, hp⟩
 refine ifB_intro (fun h => ?_) (fun h => ?_)
 ·simp at h
  have w : wadd IntKind.i64 x 1 = x + 1 := wadd_i64 (by omega) (by omega)
  refine ⟨⟨h0, by simpa using h⟩, _, rget_bR h0 h, Cl.of (less_fn _) ⟨_, rfl, ifB_intro (fun hb => ?_) (fun hb => ⟨rfl, ?_, ?_⟩)⟩⟩
  ·simp at hb
   exact ⟨x, rfl, .inr ⟨h0, h, hb, hp⟩⟩
  ·simp at hb
   rw [w]
   refine ⟨by omega, by omega, fun j hj => ?_⟩
   by_cases hjx : j < x.toNat
   ·exact hp j hjx
   ·obtain rfl : j = x.toNat := by omega
    simpa [byAt] using hb
  ·rw [w]; exact mlt (by dsimp only; omega)
 ·simp at h
  refine ⟨-1, rfl, .inl ⟨rfl, fun y hy => ?_⟩⟩
  obtain ⟨i, hi, rfl⟩ := List.getElem_of_mem hy
  have := hp i (by omega)
  simpa [hi] using this

theorem backw_fn (rows : List (List SV)) : Ct Tryz.prog 229 {} [SL 1 rows] (fun r => r = [.clo 239 [.ref 0 [SL 1 rows]]]) := backw_nf _ _ rfl

theorem ofB_app (l : List Int) (z : Int) : ofB (l ++ [z]) = ofB l + 128 ^ l.length * (z % 128).toNat := by
 induction l with
 | nil => simp [ofB]
 | cons x l ih =>
  simp only [List.cons_append, ofB, ih, List.length_cons]
  rw [Nat.pow_succ, Nat.add_mul]
  have : 128 ^ l.length * (z % 128).toNat * 128 = 128 ^ l.length * 128 * (z % 128).toNat := by
   rw [Nat.mul_assoc, Nat.mul_comm (z % 128).toNat, Nat.mul_assoc]
  omega

theorem ustep_eq {n x : Int} (h0 : 0 ≤ n) (h1 : n * 128 + 127 ≤ 18446744073709551615) (hx : 0 ≤ x) : ustep n x = n * 128 + x % 128 := by
 have e1 : wshl .u64 n 7 = n * 128 := by
  unfold wshl
  have : (2 : Int) ^ (min (7 : Int).toNat IntKind.u64.bits) = 128 := by decide
  rw [this]
  exact wrapU64 (by omega) (by omega)
 have e2 : wrem x 128 = x % 128 := by unfold wrem; exact Int.tmod_eq_emod_of_nonneg hx
 unfold ustep
 rw [e1, e2, wcvU64 (by omega) (by omega)]
 obtain ⟨m, rfl⟩ : ∃ m : Nat, n = m := ⟨n.toNat, by omega⟩
 obtain ⟨y, hy⟩ : ∃ y : Nat, x % 128 = y := ⟨(x % 128).toNat, by omega⟩
 have hy2 : y < 128 := by omega
 rw [hy]
 unfold wor
 have b1 : (BitVec.ofInt IntKind.u64.bits ((m : Int) * 128)).toNat = m * 128 := by
  have : ((m : Int) * 128) = ((m * 128 : Nat) : Int) := by omega
  rw [this, BitVec.ofInt_natCast, BitVec.toNat_ofNat]
  exact Nat.mod_eq_of_lt (by show m * 128 < 18446744073709551616; omega)
 have b2 : (BitVec.ofInt IntKind.u64.bits (y : Int)).toNat = y := by
  rw [BitVec.ofInt_natCast, BitVec.toNat_ofNat]
  exact Nat.mod_eq_of_lt (by show y < 18446744073709551616; omega)
 rw [BitVec.toNat_or, b1, b2]
 have : m * 128 ||| y = m * 128 + y := by
  have := Nat.shiftLeft_add_eq_or_of_lt (show y < 2 ^ 7 from hy2) m
  rw [Nat.shiftLeft_eq] at this
  exact this.symm
 rw [this]
 have : ((m * 128 + y : Nat) : Int) = (m : Int) * 128 + y := by omega
 rw [this]
 exact wrapU64 (by omega) (by omega)

theorem ufold_cons (x : Int) (l : List Int) : ufold 0 (bR (x :: l)) = ustep (ufold 0 (bR l)) x := by
 simp [ufold, bR, ustep]

theorem ufold_ofB : ∀ (l : List Int), Byts l → ofB l < 18446744073709551616 → ufold 0 (bR l) = ofB l
 | [], _, _ => rfl
 | x :: l, hb, h => by
  have hx := hb x (by simp)
  simp only [ofB] at h
  have ih := ufold_ofB l (fun y hy => hb y (by simp [hy])) (by omega)
  rw [ufold_cons, ih, ustep_eq (by omega) (by omega) hx.1]
  simp only [ofB]
  omega

theorem ufold_range (l : List Int) : 0 ≤ ufold 0 (bR l) ∧ ufold 0 (bR l) ≤ 18446744073709551615 := by
 cases l with
 | nil => exact ⟨by decide, by decide⟩
 | cons x l => rw [ufold_cons]; exact wrapU64_range _

def nx10 (l : List Int) (a : Int) : List Int := (l.drop a.toNat).take 10

theorem nx_eq (l : List Int) (a : Int) (h0 : 0 ≤ a) (h1 : a ≤ l.length) : rsub (rsub (bR l) a (rlen (bR l))) 0 (imin (rlen (rsub (bR l) a (rlen (bR l)))) 10) = bR (nx10 l a) := by
 have e1 : rsub (bR l) a (rlen (bR l)) = bR (l.drop a.toNat) := by rw [rsub_bR, rlen_bR]; simp
 rw [e1, rsub_bR, rlen_bR]
 simp only [imin_eq, List.length_drop, Int.toNat_zero, List.drop_zero]
 unfold nx10
 congr 1
 by_cases h : ((l.length - a.toNat : Nat) : Int) ≤ 10
 ·rw [Int.min_eq_left h, List.take_of_length_le (by simp), List.take_of_length_le (by simp; omega)]
 ·rw [Int.min_eq_right (by omega)]; rfl

theorem ofB_lt : ∀ l : List Int, ofB l < 128 ^ l.length
 | [] => by simp [ofB]
 | x :: l => by
  have h := ofB_lt l
  have hx : (x % 128).toNat < 128 := by omega
  simp only [ofB, List.length_cons, Nat.pow_succ]
  omega

theorem leb_ofB : ∀ (l : List Int) (z : Int), (∀ y ∈ l, 128 ≤ y ∧ y ≤ 255) → 0 ≤ z → z < 128 → (l ≠ [] → z ≠ 0) → leb (ofB (l ++ [z])) = l ++ [z]
 | [], z, _, h0, h1, _ => by
  have : ofB ([] ++ [z]) = z.toNat := by simp [ofB]; omega
  rw [this, leb_lt (by omega)]
  simp; omega
 | y :: l, z, hy, h0, h1, hz => by
  have hy0 := hy y (by simp)
  have ih := leb_ofB l z (fun x hx => hy x (by simp [hx])) h0 h1 (fun _ => hz (by simp))
  have hp : 1 ≤ ofB (l ++ [z]) := by
   rw [ofB_app]
   have h2 : 0 < 128 ^ l.length := Nat.pow_pos (by omega)
   have h3 : 1 ≤ (z % 128).toNat := by have := hz (by simp); omega
   have : 1 * 1 ≤ 128 ^ l.length * (z % 128).toNat := Nat.mul_le_mul h2 h3
   omega
  simp only [List.cons_append, ofB]
  rw [leb_ge (by omega)]
  have e1 : (ofB (l ++ [z]) * 128 + (y % 128).toNat) / 128 = ofB (l ++ [z]) := by omega
  have e2 : ((ofB (l ++ [z]) * 128 + (y % 128).toNat) % 128 + 128 : Nat) = y.toNat := by omega
  rw [e1, e2, ih]
  congr 1
  omega

def USnd (l : List Int) (a er a' er' n : Int) : Prop := er' = 0 → er = 0 ∧ 0 ≤ a ∧ ∃ rest, l.drop a.toNat = leb n.toNat ++ rest ∧ a' = a + (leb n.toNat).length

theorem styE_ne {er e : Int} (h : e ≠ 0) : styE er e ≠ 0 := by unfold styE; split <;> assumption

theorem uintS_fn (l : List Int) (a er : Int) (hl : l.length ≤ 100000) (hb : Byts l) : Ct Tryz.prog 197 {} [cu3 (bR l) a er] (fun r => ∃ a' er' n, r = [cu3 (bR l) a' er', U64 n] ∧ UOut l a er a' er' n ∧ USnd l a er a' er' n) := by
 refine uint_nf _ _ _ _ (Cl.of (right_fn l a er) ⟨_, rfl, ?_⟩)
 have hr : rgtC l a er = true ↔ 0 ≤ a ∧ a ≤ l.length ∧ er = 0 := by simp [rgtC]
 refine ifB_intro (fun h => ?_) (fun h => ?_)
 ·simp at h
  refine Cl.of (stay_fn l a er 1) ⟨_, _, _, rfl, _, _, _, rfl, UOut.bad (fun h1 h2 m rest h3 h4 => ?_), fun he => absurd he (styE_ne (by decide))⟩
  rw [Bool.eq_false_iff, ne_eq, hr] at h
  have := drop_lt h3
  omega
 ·simp at h
  have h := hr.1 h
  rw [nx_eq l a h.1 h.2.1]
  have hnl : (nx10 l a).length ≤ 10 := by simp only [nx10, List.length_take]; omega
  have hnb : Byts (nx10 l a) := hb.sub fun x hx => List.mem_of_mem_drop (List.mem_of_mem_take hx)
  have stayed : ∀ e : Int, e ≠ 0 → (∀ (m : Nat) rest, l.drop a.toNat = leb m ++ rest → m < 18446744073709551616 → False) → Cl Tryz.prog 226 sP ([SV.agg [SL 1 (bR l), I a, I er], I e]) (fun (rs1 : List SV) => ∃ l_1 : List (List SV), ∃ x : Int, ∃ x1 : Int, (rs1 = [SV.agg [SL 1 l_1, I x, I x1]]) ∧ (∃ a' er' n, ([SV.agg [SL 1 l_1, I x, I x1], U64 0] : List SV) = [cu3 (bR l) a' er', U64 n] ∧ UOut l a er a' er' n ∧ USnd l a er a' er' n)) := fun e he0 he =>
   Cl.of (stay_fn l a er e) ⟨_, _, _, rfl, _, _, _, rfl, UOut.bad (fun _ _ => he), fun hh => absurd hh (styE_ne he0)⟩
  -- what is read is well formed: where its last byte lies
  have shape : ∀ (m : Nat) rest, l.drop a.toNat = leb m ++ rest → m < 18446744073709551616 → ∃ (k : Nat) (z : Int), k < (nx10 l a).length ∧ (leb m).length = k + 1 ∧ (nx10 l a).getD k 0 = z ∧ z < 128 ∧ (∀ j, j < k → 128 ≤ (nx10 l a).getD j 0) ∧ (k = 9 → z ≤ 1) ∧ (0 < k → z ≠ 0) ∧ (nx10 l a).take (k + 1) = leb m := by
   intro m rest h1 h2
   obtain ⟨l1, z, e, z0, z1, hy, hz⟩ := leb_shape m
   have hlen : (leb m).length ≤ 10 := leb_len 9 _ (Nat.lt_of_lt_of_le h2 (by decide))
   have hl1 : (leb m).length = l1.length + 1 := by rw [e]; simp
   have hnx : nx10 l a = leb m ++ rest.take (10 - (leb m).length) := by
    unfold nx10; rw [h1, List.take_append, List.take_of_length_le (by omega)]
   have hget : ∀ j, j < l1.length → (nx10 l a).getD j 0 = l1.getD j 0 := by
    intro j hj
    rw [hnx, e]
    simp [List.getElem?_append, hj]
   have hof := ofB_leb m
   rw [e, ofB_app] at hof
   refine ⟨l1.length, z, by rw [hnx]; simp; omega, hl1, ?_, z1, fun j hj => ?_, fun hk => ?_, fun hk => hz (by intro e; rw [e] at hk; simp at hk), ?_⟩
   ·rw [hnx, e]; simp
   ·rw [hget j hj]
    have := hy (l1.getD j 0) (by simp [hj])
    exact this.1
   ·rw [hk] at hof
    have : (z % 128).toNat = z.toNat := by omega
    rw [this] at hof
    have hp : (128 : Nat) ^ 9 = 9223372036854775808 := by decide
    rw [hp] at hof
    omega
   ·rw [hnx, ← hl1, List.take_left]
  refine ⟨⟨h.1, by simp; omega, by omega⟩, ⟨by omega, ?_, ?_⟩, ?_⟩
  ·simp only [imin_eq, rlen_eq]; omega
  ·simp only [imin_eq, rlen_eq]; omega
  refine Cl.ofQ (indexB_fn _ (by omega)) ?_
  rintro r ⟨x, rfl, hx⟩
  refine ⟨x, rfl, ?_⟩
  -- the last part: the number is gathered
  have last : 0 ≤ x → x < (nx10 l a).length → byAt (nx10 l a) x < 128 → (∀ j : Nat, j < x.toNat → 128 ≤ (nx10 l a).getD j 0) → (x = 9 → byAt (nx10 l a) x ≤ 1) → (0 < x → byAt (nx10 l a) x ≠ 0) →
    ((((0 : Int) ≤ 0) ∧ (((0 : Int) ≤ (wadd IntKind.i64 x 1)) ∧ ((wadd IntKind.i64 x 1) ≤ (rlen (bR (nx10 l a)))))) ∧ (Cl Tryz.prog 229 sP [SV.slice 1 (rsub (bR (nx10 l a)) 0 (wadd IntKind.i64 x 1)) 0] (fun (rs2 : List SV) => ∃ f : Nat, ∃ rs3 : List SV, (rs2 = [SV.clo f rs3]) ∧ (∃ l_1 : List (List SV), (f = 239) ∧ ((rs3 = [SV.ref 0 [SL 1 l_1]]) ∧ ((isBytes l_1) ∧ ((0 < (rlen l_1)) ∧ (((rlen l_1) ≤ 100) ∧ (∃ a' er' n, ([SV.agg [SL 1 (bR l), I (wadd IntKind.i64 a (wadd IntKind.i64 x 1)), I er], U64 (ufold 0 l_1)] : List SV) = [cu3 (bR l) a' er', U64 n] ∧ UOut l a er a' er' n ∧ USnd l a er a' er' n))))))))) := by
   intro x0 x1 hlt hpre hq9 hq0
   have w : wadd IntKind.i64 x 1 = x + 1 := wadd_i64 (by omega) (by omega)
   have w2 : wadd IntKind.i64 a (x + 1) = a + (x + 1) := wadd_i64 (by omega) (by omega)
   rw [w, w2, rsub_bR]
   refine ⟨⟨by omega, by omega, by simp; omega⟩, Cl.of (backw_fn _) ⟨_, _, rfl, _, rfl, rfl, ?_, ?_, ?_, _, _, _, rfl, ?_⟩⟩
   ·exact isBytes_bR (hnb.sub fun y hy => List.mem_of_mem_take (List.mem_of_mem_drop hy))
   ·simp; omega
   ·simp; omega
   ·refine ⟨⟨(ufold_range _).1, (ufold_range _).2, fun _ _ m rest h1 h2 => ?_⟩, fun _ => ?_⟩
    ·obtain ⟨k, z, k1, k2, k3, k4, k5, k6, k7, k8⟩ := shape m rest h1 h2
     have hxk : x.toNat = k := by
      rcases Nat.lt_trichotomy x.toNat k with hlt2 | rfl | hgt
      ·have := k5 _ hlt2
       simp [byAt] at hlt this
       omega
      ·rfl
      ·have := hpre k hgt
       omega
     have e3 : ((nx10 l a).take (x + 1).toNat).drop (0 : Int).toNat = leb m := by
      rw [show (x + 1).toNat = k + 1 by omega]; simpa using k8
     rw [e3, ufold_ofB _ (byts_leb m) (by rw [ofB_leb]; exact h2), ofB_leb]
     exact ⟨by omega, h.2.2, rfl⟩
    ·-- what stands there
     have hxx : (x + 1).toNat = x.toNat + 1 := by omega
     have hlen1 : x.toNat < (nx10 l a).length := by omega
     have hb0 : byAt (nx10 l a) x = (nx10 l a)[x.toNat] := by simp [byAt, hlen1]
     have e3 : ((nx10 l a).take (x + 1).toNat).drop (0 : Int).toNat = (nx10 l a).take x.toNat ++ [byAt (nx10 l a) x] := by
      rw [hxx, hb0, Int.toNat_zero, List.drop_zero]; simp
     have hpy : ∀ y ∈ (nx10 l a).take x.toNat, 128 ≤ y ∧ y ≤ 255 := by
      intro y hy
      obtain ⟨j, hj, rfl⟩ := List.mem_iff_getElem.1 hy
      simp at hj
      have h1 := hpre j (by omega)
      have h2 := (hnb (nx10 l a)[j] (List.getElem_mem _)).2
      simp [show j < (nx10 l a).length by omega] at h1
      simp
      exact ⟨h1, h2⟩
     have hz0 : 0 ≤ byAt (nx10 l a) x := by rw [hb0]; exact (hnb _ (List.getElem_mem _)).1
     have hleb := leb_ofB ((nx10 l a).take x.toNat) (byAt (nx10 l a) x) hpy hz0 hlt (fun hne => hq0 (by
      rcases Int.lt_or_le 0 x with hh | hh
      ·exact hh
      ·exact absurd (by rw [show x.toNat = 0 by omega]; rfl) hne))
     have hbound : ofB ((nx10 l a).take x.toNat ++ [byAt (nx10 l a) x]) < 18446744073709551616 := by
      rw [ofB_app]
      have h1 := ofB_lt ((nx10 l a).take x.toNat)
      have hlt' : ((nx10 l a).take x.toNat).length = x.toNat := by simp; omega
      rw [hlt'] at h1 ⊢
      have hz : (byAt (nx10 l a) x % 128).toNat = (byAt (nx10 l a) x).toNat := by omega
      rw [hz]
      by_cases h9 : x = 9
      ·have hp : (128 : Nat) ^ 9 = 9223372036854775808 := by decide
       have := hq9 h9
       have hx9 : x.toNat = 9 := by omega
       rw [hx9, hp] at h1 ⊢
       have : (byAt (nx10 l a) x).toNat ≤ 1 := by omega
       have := Nat.mul_le_mul_left 9223372036854775808 this
       omega
      ·have hx8 : x.toNat ≤ 8 := by omega
       have h2 : (128 : Nat) ^ x.toNat ≤ 128 ^ 8 := Nat.pow_le_pow_right (by omega) hx8
       have hp : (128 : Nat) ^ 8 = 72057594037927936 := by decide
       rw [hp] at h2
       have h3 : (byAt (nx10 l a) x).toNat ≤ 127 := by omega
       have := Nat.mul_le_mul h2 h3
       omega
     have hbt : Byts ((nx10 l a).take x.toNat ++ [byAt (nx10 l a) x]) := by
      rw [hb0]; exact (hnb.sub fun y hy => List.mem_of_mem_take hy).app (fun y hy => by simp at hy; subst hy; exact hnb _ (List.getElem_mem _))
     rw [e3, ufold_ofB _ hbt hbound, Int.toNat_natCast, hleb]
     refine ⟨h.2.2, h.1, (l.drop a.toNat).drop (x.toNat + 1), ?_, ?_⟩
     ·rw [← e3, hxx, Int.toNat_zero, List.drop_zero]
      have : (nx10 l a).take (x.toNat + 1) = (l.drop a.toNat).take (x.toNat + 1) := by
       unfold nx10; rw [List.take_take]; congr 1; omega
      rw [this, List.take_append_drop]
     ·simp; omega
  have noform : (0 ≤ x → x < (nx10 l a).length → byAt (nx10 l a) x < 128 → (∀ j : Nat, j < x.toNat → 128 ≤ (nx10 l a).getD j 0) → (x = 9 ∧ 1 < byAt (nx10 l a) x) ∨ (0 < x ∧ byAt (nx10 l a) x = 0)) → ∀ (m : Nat) rest, l.drop a.toNat = leb m ++ rest → m < 18446744073709551616 → False := by
   intro hbad m rest h1 h2
   obtain ⟨k, z, k1, k2, k3, k4, k5, k6, k7, k8⟩ := shape m rest h1 h2
   rcases hx with ⟨_, hall⟩ | ⟨x0, x1, hlt, hpre⟩
   ·have := hall ((nx10 l a).getD k 0) (by simp [k1])
    omega
   ·have hxk : x.toNat = k := by
     rcases Nat.lt_trichotomy x.toNat k with hlt2 | rfl | hgt
     ·have := k5 _ hlt2
      simp [byAt] at hlt this
      omega
     ·rfl
     ·have := hpre k hgt
      omega
    have hz : byAt (nx10 l a) x = z := by rw [byAt, hxk]; exact k3
    rcases hbad x0 x1 hlt hpre with ⟨g1, g2⟩ | ⟨g1, g2⟩
    ·have := k6 (by omega); omega
    ·exact k7 (by omega) (by omega)
  refine ifB_intro (fun h2 => ?_) (fun h2 => ?_)
  ·simp at h2
   exact stayed 10 (by decide) (noform (fun x0 => by omega))
  refine ifB_intro (fun h3 => ifB_intro (fun h3 => ?_) (fun h3' => ?_)) (fun h3 => ?_)
  ·simp at h3
   exact stayed 11 (by decide) (noform (fun x0 => by omega))
  ·rw [h3] at h3'; cases h3'
  simp at h3
  obtain ⟨x0, x1, hlt, hpre⟩ : 0 ≤ x ∧ x < (nx10 l a).length ∧ byAt (nx10 l a) x < 128 ∧ ∀ j : Nat, j < x.toNat → 128 ≤ (nx10 l a).getD j 0 := by
   rcases hx with ⟨h4, _⟩ | h4
   ·omega
   ·exact h4
  have LAST := last x0 x1 hlt hpre
  refine ifB_intro (fun h4 => ?_) (fun h4 => ?_)
  ·simp at h4
   refine ⟨⟨x0, by simpa using x1⟩, _, rget_bR x0 x1, ifB_intro (fun h5 => ifB_intro (fun h5 => ?_) (fun h5' => ?_)) (fun h5 => ?_)⟩
   ·simp at h5
    exact stayed 11 (by decide) (noform (fun _ _ _ _ => .inl ⟨h4, h5⟩))
   ·rw [h5] at h5'; cases h5'
   ·simp at h5
    refine ifB_intro (fun h6 => ?_) (fun h6 => LAST (fun _ => h5) (fun h8 => by simp at h6; omega))
    simp at h6
    refine ⟨⟨x0, by simpa using x1⟩, _, rget_bR x0 x1, ifB_intro (fun h7 => ?_) (fun h7 => LAST (fun _ => h5) (fun _ => by simpa using h7))⟩
    simp at h7
    exact stayed 11 (by decide) (noform (fun _ _ _ _ => .inr ⟨h6, h7⟩))
  ·simp at h4
   refine ifB_intro (fun h6 => ?_) (fun h6 => LAST (fun h9 => absurd h9 h4) (fun h8 => by simp at h6; omega))
   simp at h6
   refine ⟨⟨x0, by simpa using x1⟩, _, rget_bR x0 x1, ifB_intro (fun h7 => ?_) (fun h7 => LAST (fun h9 => absurd h9 h4) (fun _ => by simpa using h7))⟩
   simp at h7
   exact stayed 11 (by decide) (noform (fun _ _ _ _ => .inr ⟨h6, h7⟩))


structure POut (l : List Int) (a er most a' er' n : Int) : Prop where
 n0 : 0 ≤ n
 n1 : n ≤ most
 good : er = 0 → 0 ≤ a → ∀ (m : Nat) rest, l.drop a.toNat = leb m ++ rest → (m : Int) ≤ most → a' = a + (leb m).length ∧ er' = 0 ∧ n = m

theorem bstr_tx (t : ByteArray) : bstr (bR (txB t)) = t := by
 cases t with
 | mk d =>
  simp only [bstr, bR, txB, List.map_map]
  congr 1
  apply Array.ext'
  dsimp only
  conv => rhs; rw [← List.map_id d.toList]
  apply List.map_congr_left
  intro b _
  simp [byteOfRow]

structure XOut (l : List Int) (a er a' er' : Int) (s : ByteArray) : Prop where
 good : er = 0 → 0 ≤ a → ∀ (t : ByteArray) rest, l.drop a.toNat = leb t.size ++ (txB t ++ rest) → t.size ≤ 24 → a' = a + (leb t.size).length + t.size ∧ er' = 0 ∧ s = t

theorem drop_more {l : List Int} {a : Int} {m : List Int} {rest : List Int} (h0 : 0 ≤ a) (h : l.drop a.toNat = m ++ rest) : l.drop (a + m.length).toNat = rest := by
 rw [show (a + m.length).toNat = a.toNat + m.length by omega, ← List.drop_drop, h, List.drop_left]

theorem rtext_fn (l : List Int) (a er : Int) (hl : l.length ≤ 100000) (hb : Byts l) : Ct Tryz.prog 131 {} [cu3 (bR l) a er, I 24] (fun r => ∃ a' er' s, r = [cu3 (bR l) a' er', S s] ∧ XOut l a er a' er' s) := by
 refine rtext_nf _ _ _ _ _ (Cl.ofQ (ruint_fn l a er hl hb) ?_)
 rintro r ⟨a1, er1, n, rfl, ho⟩
 have w24 : wcv IntKind.u64 24 = 24 := rfl
 have n0 := ho.n0
 have n1 := ho.n1
 have hgood : er = 0 → 0 ≤ a → ∀ (t : ByteArray) rest, l.drop a.toNat = leb t.size ++ (txB t ++ rest) → t.size ≤ 24 → a1 = a + (leb t.size).length ∧ er1 = 0 ∧ n = t.size ∧ l.drop a1.toNat = txB t ++ rest ∧ a1 + t.size ≤ l.length ∧ 0 ≤ a1 := by
  intro e1 e2 t rest e3 e4
  obtain ⟨g1, g2, g3⟩ := ho.good e1 e2 t.size _ e3 (by omega)
  have hd := drop_more e2 e3
  rw [← g1] at hd
  have hlen := congrArg List.length hd
  simp [txB_len] at hlen
  have := drop_lt e3
  exact ⟨g1, g2, g3, hd, by omega, by omega⟩
 refine ⟨_, _, _, _, rfl, ifB_intro (fun h => ?_) (fun h => ?_)⟩
 ·simp at h
  exact ⟨_, _, _, rfl, ⟨fun e1 e2 t rest e3 e4 => absurd (hgood e1 e2 t rest e3 e4).2.1 h⟩⟩
 ·simp at h
  rw [w24]
  refine ifB_intro (fun h3 => ?_) (fun h3 => ?_)
  ·simp at h3
   refine Cl.of (stays_fn l a er 9) ⟨_, _, _, rfl, _, _, _, rfl, ⟨fun e1 e2 t rest e3 e4 => ?_⟩⟩
   have := hgood e1 e2 t rest e3 e4
   omega
  ·simp at h3
   refine ifB_intro (fun h4 => ?_) (fun h4 => ?_)
   ·refine Cl.of (stays_fn l a er 10) ⟨_, _, _, rfl, _, _, _, rfl, ⟨fun e1 e2 t rest e3 e4 => ?_⟩⟩
    have := hgood e1 e2 t rest e3 e4
    have w0 : wsub IntKind.i64 (rlen (bR l)) a1 = l.length - a1 := by rw [rlen_bR]; exact wsub_i64 (by omega) (by omega)
    rw [w0, wcvU64 (by omega) (by omega)] at h4
    simp at h4
    omega
   ·rw [wcvI64 (by omega) (by omega)]
    refine Cl.ofQ (rtake_fn l a1 er1 n hl (by omega) (by omega)) ?_
    rintro r ⟨a2, er2, bs, rfl, ht⟩
    refine ⟨_, _, _, _, rfl, isBytes_bR (hb.sub ht.mem), _, _, _, rfl, ⟨fun e1 e2 t rest e3 e4 => ?_⟩⟩
    obtain ⟨g1, g2, g3, g4, g5, g6⟩ := hgood e1 e2 t rest e3 e4
    obtain ⟨q1, q2, q3⟩ := ht.good g2 g6 n0 (by omega)
    refine ⟨by omega, q2, ?_⟩
    rw [q3, g4, g3]
    have : (txB t ++ rest).take ((t.size : Nat) : Int).toNat = txB t := by
     rw [Int.toNat_natCast, ← txB_len, List.take_left]
    rw [this, bstr_tx]

theorem bstr_inj {l m : List Int} (hl : Byts l) (hm : Byts m) : bstr (bR l) = bstr (bR m) ↔ l = m := by
 constructor
 ·intro h
  have h := congrArg (fun b : ByteArray => b.data.toList.map fun x : UInt8 => (x.toNat : Int)) h
  have e : ∀ l : List Int, Byts l → ((bstr (bR l)).data.toList.map fun x : UInt8 => (x.toNat : Int)) = l := by
   intro l hl
   simp only [bstr, bR, List.map_map]
   conv => rhs; rw [← List.map_id l]
   apply List.map_congr_left
   intro b hb
   have := hl b hb
   simp [byteOfRow, UInt8.toNat_ofNat']
   omega
  rw [e l hl, e m hm] at h
  exact h
 ·rintro rfl; rfl

theorem bequal_fn (l m : List Int) (hl : Byts l) (hm : Byts m) : Ct Tryz.prog 129 {} [SL 1 (bR l), SL 1 (bR m)] (fun r => r = [B (decide (l = m))]) := by
 refine bequal_nf _ _ _ ⟨isBytes_bR hl, isBytes_bR hm, ?_⟩
 rw [seq_d]
 simp [bstr_inj hl hm]

end Go.Proofs.YtbocfphenkidnaaGreatDoor.Cod
