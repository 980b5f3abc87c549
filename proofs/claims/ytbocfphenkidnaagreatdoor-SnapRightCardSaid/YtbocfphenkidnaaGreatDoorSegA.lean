/- Layers 4, 8, 9: the printed conditions of crc's, frame's and segment's functions. -/
import Derived.Test.YtbocfphenkidnaaGreatDoorCodB
namespace Go.Proofs.YtbocfphenkidnaaGreatDoor.Seg
open Go Go.Px Go.Proofs Cod
set_option maxRecDepth 100000
set_option linter.unusedVariables false

abbrev U32 (n : Int) : SV := .int .u32 n
abbrev cx3 (s a : Int) (ns : List (List SV)) : SV := .agg [I s, I a, SL 1 ns]
abbrev sc11 (num bs ba : Int) (bn ev : List (List SV)) (as_ aa : Int) (an : List (List SV)) (st sz : Int) (sealed : Bool) : SV := .agg [I num, I bs, I ba, SL 1 bn, SL 7 ev, I as_, I aa, SL 1 an, I st, I sz, B sealed]
abbrev sOP : Sig := ⟨[], [.own, .pure]⟩
abbrev sL : Sig := ⟨[.lend [false,false,false,false,true,false,false,false,false,false,false]], []⟩
def SgT : FuncId → Sig := (fun f => bif Nat.beq f 12 then sOP else bif Nat.beq f 62 then sL else bif Nat.beq f 63 then sL else bif Nat.beq f 52 then sOP else bif Nat.beq f 53 then ⟨[], [.own]⟩ else bif Nat.beq f 127 then sL else bif Nat.beq f 128 then sL else bif Nat.beq f 71 then ⟨[], [.own]⟩ else bif Nat.beq f 110 then ⟨[], [.own]⟩ else bif Nat.beq f 115 then ⟨[], [.own]⟩ else bif Nat.beq f 181 then ⟨[], [.own]⟩ else bif Nat.beq f 137 then ⟨[], [.own]⟩ else bif Nat.beq f 185 then ⟨[], [.own]⟩ else {})
def SvT : TypeId → Sig := fun _ => {}
theorem cstep_nf (n : Int) (Q : List SV → Prop) (h : ((0 : Int) ≤ 1) ∧ ((((2 : Int) = 0) → False) ∧ (ifB (ieq (wrem n 2) 1) (Q [SV.int .u32 (wxor .u32 (wshr .u32 n 1) 3988292384)]) (Q [SV.int .u32 (wshr .u32 n 1)])))) : Ct Tryz.prog 138 {} [U32 n] Q :=
 fn_of (f := 138) SgT SvT (fun _ => none) Tryz.f138 Tryz.func138 (by kernel_rfl) (by kernel_rfl) h

theorem ctable_nf  (Q : List SV → Prop) (h : ∃ Inv : Int → (List Int) → Prop, ∃ m : Int → (List Int) → Nat, (Inv 0 (azero 256)) ∧ (∀ x rs, (Inv x rs) → ifB (ilt x 256) (∃ Inv1 : Int → Int → Prop, ∃ m1 : Int → Int → Nat, (Inv1 (wcv .u32 x) 0) ∧ (∀ x1 x2, (Inv1 x1 x2) → ifB (ilt x2 8) (Cl Tryz.prog 138 sP [SV.int .u32 x1] (fun rs1 => ∃ x3, (rs1 = [SV.int .u32 x3]) ∧ ((Sm (some ([[SV.gd 0 true (SV.arr .u32 256 (azero 256))], [SV.gd 0 true (SV.arr .u32 256 rs)]]))) ∧ ((Inv1 x3 (wadd .i64 x2 1)) ∧ (Nat.le (Nat.succ (m1 x3 (wadd .i64 x2 1))) (m1 x1 x2)))))) ((((0 : Int) ≤ x) ∧ (x < ((256 : Int)))) ∧ ((((0 : Int) ≤ x) ∧ (x < ((256 : Int)))) ∧ ((Sm (some ([[SV.gd 0 true (SV.arr .u32 256 (azero 256))]]))) ∧ ((Inv (wadd .i64 x 1) (aset rs x x1)) ∧ (Nat.le (Nat.succ (m (wadd .i64 x 1) (aset rs x x1))) (m x rs)))))))) (Q [SV.arr .u32 256 rs]))) : Ct Tryz.prog 72 {} ([] : List SV) Q :=
 fn_of (f := 72) SgT SvT (fun k => bif Nat.beq k 5 then some { slots := [(4,false,[.int .i64])], owns := [(128,.arr .u32 256)], fixed := [0] } else bif Nat.beq k 10 then some { slots := [(3,false,[.int .u32]),(9,false,[.int .i64])], fixed := [0, 128] } else none) Tryz.f72 Tryz.func72 (by kernel_rfl) (by kernel_rfl) h

theorem csum_nf (ns : List Int) (n : Int) (rows : LL) (Q : List SV → Prop) (h : ∃ Inv : Int → Int → Prop, ∃ m : Int → Int → Nat, (Inv n 0) ∧ (∀ x x1, (Inv x x1) → ifB (ilt x1 (rlen rows)) ((((0 : Int) ≤ x1) ∧ (x1 < (rlen rows))) ∧ (∃ x2, (rget rows x1 = [U8 x2]) ∧ ((((0 : Int) ≤ (wxor .u8 (wcv .u8 (wnot .u32 x)) x2)) ∧ ((wxor .u8 (wcv .u8 (wnot .u32 x)) x2) < ((256 : Int)))) ∧ ((((0 : Int) ≤ (wxor .u8 (wcv .u8 (wnot .u32 x)) x2)) ∧ ((wxor .u8 (wcv .u8 (wnot .u32 x)) x2) < ((256 : Int)))) ∧ (((0 : Int) ≤ 8) ∧ ((Sm (some ([[SV.gd 0 true (SV.arr .u32 256 ns)]]))) ∧ ((Inv (wnot .u32 (wxor .u32 (aget ns (wxor .u8 (wcv .u8 (wnot .u32 x)) x2)) (wshr .u32 (wnot .u32 x) 8))) (wadd .i64 x1 1)) ∧ (Nat.le (Nat.succ (m (wnot .u32 (wxor .u32 (aget ns (wxor .u8 (wcv .u8 (wnot .u32 x)) x2)) (wshr .u32 (wnot .u32 x) 8))) (wadd .i64 x1 1))) (m x x1))))))))) (Q [SV.int .u32 x]))) : Ct Tryz.prog 136 {} [.arr .u32 256 ns, U32 n, SL 1 rows] Q :=
 fn_of (f := 136) SgT SvT (fun k => bif Nat.beq k 13 then some { slots := [(1,false,[.int .u32]),(12,false,[.int .i64])], fixed := [384] } else none) Tryz.f136 Tryz.func136 (by kernel_rfl) (by kernel_rfl) h

theorem cseal_nf (ns : List Int) (rows : LL) (Q : List SV → Prop) (h : Cl Tryz.prog 136 sP [SV.arr .u32 256 ns, SV.int .u32 0, SL 1 rows] (fun rs => ∃ x, (rs = [SV.int .u32 x]) ∧ (Cl Tryz.prog 137 sO [SL 1 rows] (fun rs1 => ∃ l, (rs1 = [SL 1 l]) ∧ (∃ Inv : (LL) → Int → Prop, ∃ m : (LL) → Int → Nat, (Inv l 0) ∧ (∀ l1 x1, (Inv l1 x1) → ifB (ilt x1 4) (((0 : Int) ≤ (wmul .i64 8 x1)) ∧ (((lsum (rlen l1) (rlen ([[U8 (wcv .u8 (wshr .u32 x (wmul .i64 8 x1)))]]))) ≤ ((2147483648 : Int))) ∧ ((Sm (some ([[SV.gd 0 true (SV.arr .u32 256 ns)]]))) ∧ ((Inv (rapp l1 ([[U8 (wcv .u8 (wshr .u32 x (wmul .i64 8 x1)))]])) (wadd .i64 x1 1)) ∧ (Nat.le (Nat.succ (m (rapp l1 ([[U8 (wcv .u8 (wshr .u32 x (wmul .i64 8 x1)))]])) (wadd .i64 x1 1))) (m l1 x1)))))) (Q [SL 1 l1]))))))) : Ct Tryz.prog 71 ⟨[], [.own]⟩ [.arr .u32 256 ns, SL 1 rows] Q :=
 fn_of (f := 71) SgT SvT (fun k => bif Nat.beq k 14 then some { slots := [(6,false,[.own 1]),(13,false,[.int .i64])], fixed := [256] } else none) Tryz.f71 Tryz.func71 (by kernel_rfl) (by kernel_rfl) h

theorem copen_nf (ns : List Int) (rows : LL) (Q : List SV → Prop) (h : ifB (ilt (wsub .i64 (rlen rows) 4) 0) (Q ([SL 1 [], I 10])) ((((0 : Int) ≤ 0) ∧ (((0 : Int) ≤ (wsub .i64 (rlen rows) 4)) ∧ ((wsub .i64 (rlen rows) 4) ≤ (rlen rows)))) ∧ (Cl Tryz.prog 71 sO [SV.arr .u32 256 ns, SL 1 (rsub rows 0 (wsub .i64 (rlen rows) 4))] (fun rs => ∃ l, (rs = [SL 1 l]) ∧ (Cl Tryz.prog 129 sP [SL 1 l, SL 1 rows] (fun rs1 => ∃ b, (rs1 = [B b]) ∧ (ifB (bnot b) (Q ([SL 1 [], I 12])) ((((0 : Int) ≤ 0) ∧ (((0 : Int) ≤ (wsub .i64 (rlen rows) 4)) ∧ ((wsub .i64 (rlen rows) 4 = wsub .i64 (rlen rows) 4) ∧ ((wsub .i64 (rlen rows) 4) ≤ (rlen rows))))) ∧ (Q [SL 1 (rsub rows 0 (wsub .i64 (rlen rows) 4)), I 0]))))))))) : Ct Tryz.prog 76 {} [.arr .u32 256 ns, SL 1 rows] Q :=
 fn_of (f := 76) SgT SvT (fun _ => none) Tryz.f76 Tryz.func76 (by kernel_rfl) (by kernel_rfl) h

theorem bhasp_nf (rows rows2 : LL) (Q : List SV → Prop) (h : ifB (ige (rlen rows) (rlen rows2)) ((((0 : Int) ≤ 0) ∧ (((0 : Int) ≤ (rlen rows2)) ∧ ((rlen rows2) ≤ (rlen rows)))) ∧ (Cl Tryz.prog 129 sP [SL 1 (rsub rows 0 (rlen rows2)), SL 1 rows2] (fun rs => ∃ b, (rs = [B b]) ∧ (Q [B b])))) (Q [B false])) : Ct Tryz.prog 145 {} [SL 1 rows, SL 1 rows2] Q :=
 fn_of (f := 145) SgT SvT (fun _ => none) Tryz.f145 Tryz.func145 (by kernel_rfl) (by kernel_rfl) h

theorem bcutp_nf (rows rows2 : LL) (Q : List SV → Prop) (h : Cl Tryz.prog 145 sP [SL 1 rows, SL 1 rows2] (fun rs => ∃ b, (rs = [B b]) ∧ (ifB (bnot b) (Q [SL 1 rows, B false]) ((((0 : Int) ≤ (rlen rows2)) ∧ (((rlen rows2) ≤ (rlen rows)) ∧ ((rlen rows) ≤ (rlen rows)))) ∧ (Q [SL 1 (rsub rows (rlen rows2) (rlen rows)), B true]))))) : Ct Tryz.prog 77 {} [SL 1 rows, SL 1 rows2] Q :=
 fn_of (f := 77) SgT SvT (fun _ => none) Tryz.f77 Tryz.func77 (by kernel_rfl) (by kernel_rfl) h

theorem hasp2_nf (s t : ByteArray) (Q : List SV → Prop) (h : ifB (ige (slen s) (slen t)) ((((0 : Int) ≤ 0) ∧ (((0 : Int) ≤ (slen t)) ∧ ((slen t) ≤ (slen s)))) ∧ (Q [B (seq (ssub s 0 (slen t)) t)])) (Q [B false])) : Ct Tryz.prog 194 {} [S s, S t] Q :=
 fn_of (f := 194) SgT SvT (fun _ => none) Tryz.f194 Tryz.func194 (by kernel_rfl) (by kernel_rfl) h


def stepI (n : Int) : Int := if wrem n 2 = 1 then wxor .u32 (wshr .u32 n 1) 3988292384 else wshr .u32 n 1
def itr : Nat → Int → Int
 | 0, n => n
 | k + 1, n => stepI (itr k n)
def tbl : List Int := (List.range 256).map fun (k : Nat) => itr 8 (wcv .u32 (k : Int))
def idx (n b : Int) : Int := wxor .u8 (wcv .u8 (wnot .u32 n)) b
def stp (n b : Int) : Int := wnot .u32 (wxor .u32 (aget tbl (idx n b)) (wshr .u32 (wnot .u32 n) 8))
def sumL (l : List Int) (n : Int) : Int := l.foldl stp n
def s4 (n : Int) : List Int := [wcv .u8 (wshr .u32 n 0), wcv .u8 (wshr .u32 n 8), wcv .u8 (wshr .u32 n 16), wcv .u8 (wshr .u32 n 24)]
def sealB (l : List Int) : List Int := l ++ s4 (sumL l 0)

theorem tbl_len : tbl.length = 256 := by simp [tbl]
theorem wrap_u8 (a : Int) : 0 ≤ IntKind.u8.wrap a ∧ IntKind.u8.wrap a < 256 := by
 simp [IntKind.wrap, IntKind.signed, IntKind.bits]; omega
theorem idx_range (n b : Int) : 0 ≤ idx n b ∧ idx n b < 256 := wrap_u8 _
theorem s4_byts (n : Int) : Byts (s4 n) := by
 intro x hx
 simp only [s4, List.mem_cons, List.not_mem_nil, or_false] at hx
 rcases hx with rfl | rfl | rfl | rfl
 all_goals (have := wrap_u8 (wshr .u32 n 0); have := wrap_u8 (wshr .u32 n 8); have := wrap_u8 (wshr .u32 n 16); have := wrap_u8 (wshr .u32 n 24); unfold wcv; omega)
theorem s4_len (n : Int) : (s4 n).length = 4 := rfl
theorem sealB_byts {l : List Int} (h : Byts l) : Byts (sealB l) := h.app (s4_byts _)
theorem sealB_len (l : List Int) : (sealB l).length = l.length + 4 := by simp [sealB, s4_len]

theorem cstep_fn (n : Int) : Ct Tryz.prog 138 {} [U32 n] (fun r => r = [U32 (stepI n)]) := by
 refine cstep_nf _ _ ⟨by omega, fun h => by omega, ifB_intro (fun h => ?_) (fun h => ?_)⟩
 ·simp at h; simp [stepI, h]
 ·simp at h; simp [stepI, h]

theorem ctable_fn : Ct Tryz.prog 72 {} [] (fun r => r = [.arr .u32 256 tbl]) := by
 refine ctable_nf _ ⟨fun x rs => 0 ≤ x ∧ x ≤ 256 ∧ rs.length = 256 ∧ rs.take x.toNat = tbl.take x.toNat, fun x _ => (256 - x).toNat, ⟨by omega, by omega, by simp [azero], by simp⟩, ?_⟩
 rintro x rs ⟨x0, x1, hl, ht⟩
 refine ifB_intro (fun h => ?_) (fun h => ?_)
 ·simp at h
  have w : wadd IntKind.i64 x 1 = x + 1 := wadd_i64 (by omega) (by omega)
  refine ⟨fun y j => 0 ≤ j ∧ j ≤ 8 ∧ y = itr j.toNat (wcv .u32 x), fun _ j => (8 - j).toNat, ⟨by omega, by omega, rfl⟩, ?_⟩
  rintro y j ⟨j0, j1, rfl⟩
  refine ifB_intro (fun hj => ?_) (fun hj => ?_)
  ·simp at hj
   have w2 : wadd IntKind.i64 j 1 = j + 1 := wadd_i64 (by omega) (by omega)
   rw [w2]
   refine Cl.of (cstep_fn _) ⟨_, rfl, rfl, ⟨by omega, by omega, ?_⟩, ?_⟩
   ·rw [show (j + 1).toNat = j.toNat + 1 by omega]; rfl
   ·show Nat.succ (8 - (j + 1)).toNat ≤ (8 - j).toNat; omega
  ·simp at hj
   have hj8 : j.toNat = 8 := by omega
   rw [w, hj8]
   refine ⟨⟨x0, h⟩, ⟨x0, h⟩, rfl, ⟨by omega, by omega, by simp [aset, hl], ?_⟩, ?_⟩
   ·have hlt : x.toNat < rs.length := by omega
    have hlt2 : x.toNat < tbl.length := by rw [tbl_len]; omega
    rw [show (x + 1).toNat = x.toNat + 1 by omega, List.take_succ_eq_append_getElem hlt2, ← ht, List.take_succ_eq_append_getElem (by simp [aset]; omega)]
    have e1 : (aset rs x (itr 8 (wcv IntKind.u32 x))).take x.toNat = rs.take x.toNat := by
     unfold aset; rw [List.take_set_of_le (Nat.le_refl _)]
    have e2 : (aset rs x (itr 8 (wcv IntKind.u32 x)))[x.toNat]'(by simp [aset]; omega) = tbl[x.toNat] := by
     simp [aset, tbl]
     rw [show (max x 0 : Int) = x by omega]
    rw [e1, e2]
   ·show Nat.succ (256 - (x + 1)).toNat ≤ (256 - x).toNat; omega
 ·simp at h
  have hx : x.toNat = 256 := by omega
  rw [hx, List.take_of_length_le (by omega), List.take_of_length_le (by rw [tbl_len]; omega)] at ht
  rw [ht]

theorem csum_fn (l : List Int) (n : Int) (hl : l.length ≤ 1000000) : Ct Tryz.prog 136 {} [.arr .u32 256 tbl, U32 n, SL 1 (bR l)] (fun r => r = [U32 (sumL l n)]) := by
 refine csum_nf _ _ _ _ ⟨fun y x => 0 ≤ x ∧ x ≤ l.length ∧ y = sumL (l.take x.toNat) n, fun _ x => (l.length - x).toNat, ⟨by omega, by omega, rfl⟩, ?_⟩
 rintro y x ⟨x0, x1, rfl⟩
 refine ifB_intro (fun h => ?_) (fun h => ?_)
 ·simp at h
  have hlt : x.toNat < l.length := by omega
  have w : wadd IntKind.i64 x 1 = x + 1 := wadd_i64 (by omega) (by omega)
  rw [w]
  have hi := idx_range (sumL (l.take x.toNat) n) (byAt l x)
  refine ⟨⟨x0, by simpa using h⟩, _, rget_bR x0 h, ⟨hi.1, hi.2⟩, ⟨hi.1, hi.2⟩, by omega, rfl, ⟨by omega, by omega, ?_⟩, ?_⟩
  ·rw [show (x + 1).toNat = x.toNat + 1 by omega, List.take_succ_eq_append_getElem hlt]
   simp only [sumL, List.foldl_append, List.foldl_cons, List.foldl_nil]
   have : byAt l x = l[x.toNat] := by simp [byAt, hlt]
   rw [← this]; rfl
  ·show Nat.succ (l.length - (x + 1)).toNat ≤ (l.length - x).toNat; omega
 ·simp at h
  rw [List.take_of_length_le (by omega)]

theorem cseal_fn (l : List Int) (hl : l.length ≤ 1000000) : Ct Tryz.prog 71 ⟨[], [.own]⟩ [.arr .u32 256 tbl, SL 1 (bR l)] (fun r => r = [SL 1 (bR (sealB l))]) := by
 refine cseal_nf _ _ _ (Cl.of (csum_fn l 0 hl) ⟨_, rfl, Cl.of (clone_bR (bR l) (by simp; omega)) ⟨_, rfl, ?_⟩⟩)
 refine ⟨fun l' x => 0 ≤ x ∧ x ≤ 4 ∧ l' = bR (l ++ (s4 (sumL l 0)).take x.toNat), fun _ x => (4 - x).toNat, ⟨by omega, by omega, by simp⟩, ?_⟩
 rintro _ x ⟨x0, x1, rfl⟩
 refine ifB_intro (fun h => ?_) (fun h => ?_)
 ·simp at h
  have w : wadd IntKind.i64 x 1 = x + 1 := wadd_i64 (by omega) (by omega)
  have w2 : wmul IntKind.i64 8 x = 8 * x := wrap_i64 (by omega) (by omega)
  rw [w, w2]
  refine ⟨by omega, by simp [lsum, rlen]; omega, rfl, ⟨by omega, by omega, ?_⟩, ?_⟩
  ·have hx : x = 0 ∨ x = 1 ∨ x = 2 ∨ x = 3 := by omega
   rcases hx with rfl | rfl | rfl | rfl <;> simp [rapp, s4]
  ·show Nat.succ (4 - (x + 1)).toNat ≤ (4 - x).toNat; omega
 ·simp at h
  rw [List.take_of_length_le (by rw [s4_len]; omega)]; rfl

def openE (l : List Int) : List Int × Int := if l.length < 4 then ([], 10) else if sealB (l.take (l.length - 4)) = l then (l.take (l.length - 4), 0) else ([], 12)

theorem copen_fn (l : List Int) (hb : Byts l) (hl : l.length ≤ 1000000) : Ct Tryz.prog 76 {} [.arr .u32 256 tbl, SL 1 (bR l)] (fun r => r = [SL 1 (bR (openE l).1), I (openE l).2]) := by
 have hrl : rlen (bR l) = l.length := by simp [rlen]
 refine copen_nf _ _ _ ?_
 rw [hrl]
 have w : wsub IntKind.i64 (l.length : Int) 4 = l.length - 4 := wsub_i64 (by omega) (by omega)
 rw [w]
 refine ifB_intro (fun h => ?_) (fun h => ?_)
 ·simp at h
  simp [openE, show l.length < 4 by omega]
 ·simp at h
  have ht : ((l.length : Int) - 4).toNat = l.length - 4 := by omega
  refine ⟨⟨by omega, by omega, by omega⟩, ?_⟩
  rw [rsub_bR, ht]
  simp only [Int.toNat_zero, List.drop_zero]
  refine Cl.of (cseal_fn _ (by simp; omega)) ⟨_, rfl, Cl.of (bequal_fn _ _ (sealB_byts (hb.sub fun x hx => List.mem_of_mem_take hx)) hb) ⟨_, rfl, ifB_intro (fun h2 => ?_) (fun h2 => ?_)⟩⟩
  ·simp at h2
   simp [openE, show ¬ l.length < 4 by omega, h2]
  ·simp at h2
   refine ⟨⟨by omega, by omega, trivial, by omega⟩, ?_⟩
   simp [openE, show ¬ l.length < 4 by omega, h2]

def fr (k : Int) (p : List Int) : List Int := sealB (0 :: (p.length : Int) :: k :: p)
def putF (k : Int) (p : List Int) : List Int × Int := if ¬ (1 ≤ k ∧ k ≤ 3) then ([], 2) else if 200 < p.length then ([], 9) else (fr k p, 0)

theorem fr_len (k : Int) (p : List Int) : (fr k p).length = p.length + 7 := by simp [fr, sealB_len]

theorem wcv8 {a : Int} (h0 : 0 ≤ a) (h1 : a < 256) : wcv .u8 a = a := by rw [wcvU8 a h0]; omega


def nextR (r : List Int) : Int × Int × List Int × Int :=
 if r = [] then (1, 0, [], 0) else if r.length < 7 then (2, 0, [], 0)
 else if 200 < 256 * byAt r 0 + byAt r 1 then (3, 0, [], 0)
 else if (r.length : Int) < 256 * byAt r 0 + byAt r 1 + 7 then (2, 0, [], 0)
 else if ¬ (1 ≤ byAt r 2 ∧ byAt r 2 ≤ 3) then (3, 0, [], 0)
 else if sealB (r.take ((256 * byAt r 0 + byAt r 1).toNat + 3)) = r.take ((256 * byAt r 0 + byAt r 1).toNat + 7) then
  (0, byAt r 2, (r.take ((256 * byAt r 0 + byAt r 1).toNat + 3)).drop 3, 256 * byAt r 0 + byAt r 1 + 7) else (3, 0, [], 0)
def nextF (l : List Int) (a : Int) : Int × Int × List Int × Int := if a < 0 ∨ (l.length : Int) < a then (3, 0, [], 0) else nextR (l.drop a.toNat)

abbrev nxS (p : Int × Int × List Int × Int) : List SV := [I p.1, I p.2.1, SL 1 (bR p.2.2.1), I p.2.2.2]

def hdP (n s a : Int) : List Int := [102, 98, 120, 49] ++ (leb n.toNat ++ (leb s.toNat ++ leb a.toNat))
def slP (n s a : Int) : List Int := leb n.toNat ++ (leb s.toNat ++ leb a.toNat)
def ctxOK (s a : Int) : Prop := 0 ≤ s ∧ s ≤ 4294967296 ∧ 0 ≤ a ∧ a ≤ 1099511627776
instance (s a : Int) : Decidable (ctxOK s a) := inferInstanceAs (Decidable (_ ∧ _))
def headE (n s a : Int) (l : List ByteArray) : List Int × Int := if ¬ (1 ≤ n ∧ n ≤ 99999999) then ([], 1) else if ¬ (ctxOK s a ∧ l = []) then ([], 1) else (fr 1 (hdP n s a), 0)

theorem hdP_len {n s a : Int} (hn : n ≤ 99999999) (hs : s ≤ 4294967296) (ha : a ≤ 1099511627776) : (hdP n s a).length ≤ 34 := by
 have h1 : (leb n.toNat).length ≤ 10 := leb_small (by omega)
 have h2 : (leb s.toNat).length ≤ 10 := leb_small (by omega)
 have h3 : (leb a.toNat).length ≤ 10 := leb_small (by omega)
 simp [hdP]; omega



abbrev evR (l : List EvD) : List (List SV) := l.map fun e => [I e.s, I e.a, I e.k, S e.c, I e.x, I e.y, I e.z]

structure Sc where
 num : Int
 bs : Int
 ba : Int
 ev : List EvD
 s : Int
 a : Int
 m : List ByteArray
 sl : Bool

abbrev Sc.sv (d : Sc) (st sz : Int) : SV := sc11 d.num d.bs d.ba [] (evR d.ev) d.s d.a (nR d.m) st sz d.sl

theorem bcutp_fn (l m : List Int) (hl : Byts l) (hm : Byts m) : Ct Tryz.prog 77 {} [SL 1 (bR l), SL 1 (bR m)] (fun r => (∃ t, l = m ++ t ∧ r = [SL 1 (bR t), B true]) ∨ ((∀ t, l ≠ m ++ t) ∧ r = [SL 1 (bR l), B false])) := by
 have hrl : rlen (bR l) = l.length := by simp [rlen]
 have hrm : rlen (bR m) = m.length := by simp [rlen]
 have hp : Ct Tryz.prog 145 {} [SL 1 (bR l), SL 1 (bR m)] (fun r => r = [B (decide (m.length ≤ l.length ∧ l.take m.length = m))]) := by
  refine bhasp_nf _ _ _ ?_
  rw [hrl, hrm]
  refine ifB_intro (fun h => ?_) (fun h => ?_)
  ·simp at h
   refine ⟨⟨by omega, by omega, by omega⟩, ?_⟩
   rw [rsub_bR]
   refine Cl.of (bequal_fn _ _ (hl.sub fun x hx => List.mem_of_mem_take (List.mem_of_mem_drop hx)) hm) ⟨_, rfl, ?_⟩
   simp [h]
  ·simp at h
   simp [show ¬ m.length ≤ l.length by omega]
 refine bcutp_nf _ _ _ (Cl.of hp ⟨_, rfl, ifB_intro (fun h => ?_) (fun h => ?_)⟩)
 ·refine .inr ⟨fun t e => ?_, rfl⟩
  subst e
  simp at h
 ·simp at h
  rw [hrl, hrm]
  refine ⟨⟨by omega, by omega, by omega⟩, .inl ⟨l.drop m.length, ?_, ?_⟩⟩
  ·conv => lhs; rw [← List.take_append_drop m.length l, h.2]
  ·rw [rsub_bR]; simp

def headOK (n s a : Int) : Prop := (1 ≤ n ∧ n ≤ 99999999) ∧ ctxOK s a

inductive TakeO (d : Sc) (k : Int) (p : List Int) : Bool → Sc → Prop
 | head (n s a : Int) (hs : d.sl = false) (hn : d.num = 0) (hk : k = 1) (ok : headOK n s a) (hp : p = hdP n s a) : TakeO d k p true { d with num := n, bs := s, ba := a, s := s, a := a, m := [] }
 | record (e : EvD) (hs : d.sl = false) (hn : d.num ≠ 0) (hk : k = 2) (ok : EncOK d.s d.a d.m e) (hp : encL d.s d.a d.m e = p) : TakeO d k p true { d with ev := d.ev ++ [e], s := e.s, a := e.a, m := bhdN d.m e.c }
 | last (hs : d.sl = false) (hn : d.num ≠ 0) (hk : k = 3) (hp : p = slP d.ev.length d.s d.a) : TakeO d k p true { d with sl := true }
 | no (h1 : d.sl = false → d.num = 0 → k = 1 → ∀ n s a, headOK n s a → p ≠ hdP n s a) (h2 : d.sl = false → d.num ≠ 0 → k = 2 → ∀ e, EncOK d.s d.a d.m e → encL d.s d.a d.m e ≠ p)
   (h3 : d.sl = false → d.num ≠ 0 → k = 3 → p ≠ slP d.ev.length d.s d.a) : TakeO d k p false d

def endW (w : Int) (sl : Bool) : Int := if w = 1 then (if sl = true then 4 else 1) else if w = 2 ∧ sl = false then 2 else 3


def recL : Int → Int → List ByteArray → List EvD → List Int
 | _, _, _, [] => []
 | s, a, m, e :: l => fr 2 (encL s a m e) ++ recL e.s e.a (bhdN m e.c) l
def okL : Int → Int → List ByteArray → List EvD → Prop
 | _, _, _, [] => True
 | s, a, m, e :: l => EncOK s a m e ∧ okL e.s e.a (bhdN m e.c) l
def fin3 : Int → Int → List ByteArray → List EvD → Int × Int × List ByteArray
 | s, a, m, [] => (s, a, m)
 | _, _, m, e :: l => fin3 e.s e.a (bhdN m e.c) l

theorem fin3_snoc : ∀ (l : List EvD) (s a : Int) (m : List ByteArray) (e : EvD), fin3 s a m (l ++ [e]) = (e.s, e.a, bhdN (fin3 s a m l).2.2 e.c)
 | [], s, a, m, e => rfl
 | x :: l, s, a, m, e => fin3_snoc l x.s x.a (bhdN m x.c) e
theorem recL_snoc : ∀ (l : List EvD) (s a : Int) (m : List ByteArray) (e : EvD), recL s a m (l ++ [e]) = recL s a m l ++ fr 2 (encL (fin3 s a m l).1 (fin3 s a m l).2.1 (fin3 s a m l).2.2 e)
 | [], s, a, m, e => by simp [recL, fin3]
 | x :: l, s, a, m, e => by simp [recL, fin3, recL_snoc l]
theorem okL_snoc : ∀ (l : List EvD) (s a : Int) (m : List ByteArray) (e : EvD), okL s a m (l ++ [e]) ↔ okL s a m l ∧ EncOK (fin3 s a m l).1 (fin3 s a m l).2.1 (fin3 s a m l).2.2 e
 | [], s, a, m, e => by simp [okL, fin3]
 | x :: l, s, a, m, e => by simp [okL, fin3, okL_snoc l, and_assoc]
def segL (d : Sc) : List Int := if d.num = 0 then [] else fr 1 (hdP d.num d.bs d.ba) ++ (recL d.bs d.ba [] d.ev ++ (if d.sl = true then fr 3 (slP d.ev.length d.s d.a) else []))
def sc0 : Sc := ⟨0, 0, 0, [], 0, 0, [], false⟩

structure ScOK (d : Sc) : Prop where
 zero : d.num = 0 → d = sc0
 head : d.num ≠ 0 → headOK d.num d.bs d.ba
 evs : d.num ≠ 0 → okL d.bs d.ba [] d.ev
 fin : d.num ≠ 0 → (d.s, d.a, d.m) = fin3 d.bs d.ba [] d.ev

theorem okL_ctx : ∀ (l : List EvD) (s a : Int) (m : List ByteArray), ctxOK s a → okL s a m l → ctxOK (fin3 s a m l).1 (fin3 s a m l).2.1
 | [], _, _, _, h, _ => h
 | e :: l, s, a, m, h, ⟨h1, h2⟩ => by
  refine okL_ctx l e.s e.a (bhdN m e.c) ?_ h2
  obtain ⟨_, _, _, h3, h4⟩ := chkE_zero h1.chk
  exact ⟨h4.1, h4.2, h3.1, h3.2⟩

theorem ScOK.ctx {d : Sc} (h : ScOK d) (hn : d.num ≠ 0) : ctxOK d.s d.a := by
 have h1 := okL_ctx d.ev d.bs d.ba [] (h.head hn).2 (h.evs hn)
 rw [← h.fin hn] at h1
 exact h1

theorem TakeO.ok {d d' : Sc} {k : Int} {p : List Int} {b : Bool} (t : TakeO d k p b d') (h : ScOK d) (hb : b = true) : ScOK d' ∧ segL d' = segL d ++ fr k p ∧ d'.num ≠ 0 := by
 cases t with
 | head n s a hs hn hk ok hp =>
  have h0 := h.zero hn
  have hn' : n ≠ 0 := by have := ok.1; omega
  refine ⟨⟨fun e => absurd e hn', fun _ => ok, fun _ => by rw [h0]; trivial, fun _ => by rw [h0]; rfl⟩, ?_, hn'⟩
  subst hk hp
  simp only [segL, hn, if_true, if_neg hn', List.nil_append]
  rw [h0]
  simp [sc0, recL]
 | record e hs hn hk ok hp =>
  have hf := h.fin hn
  have e1 : (fin3 d.bs d.ba [] d.ev).1 = d.s := by rw [← hf]
  have e2 : (fin3 d.bs d.ba [] d.ev).2.1 = d.a := by rw [← hf]
  have e3 : (fin3 d.bs d.ba [] d.ev).2.2 = d.m := by rw [← hf]
  refine ⟨⟨fun e => absurd e hn, h.head, fun _ => (okL_snoc _ _ _ _ _).2 ⟨h.evs hn, by rw [e1, e2, e3]; exact ok⟩, fun _ => by rw [fin3_snoc, e3]⟩, ?_, hn⟩
  subst hk hp
  simp only [segL, if_neg hn, hs, recL_snoc, e1, e2, e3]
  simp
 | last hs hn hk hp =>
  refine ⟨⟨fun e => absurd e hn, h.head, h.evs, h.fin⟩, ?_, hn⟩
  subst hk hp
  simp only [segL, if_neg hn, hs]
  simp
 | no => cases hb

theorem fr_cons (k : Int) (p t : List Int) : fr k p ++ t = 0 :: (p.length : Int) :: k :: (p ++ (s4 (sumL (0 :: (p.length : Int) :: k :: p) 0) ++ t)) := by simp [fr, sealB]

theorem nextR_fr {k : Int} {p : List Int} (hk : 1 ≤ k ∧ k ≤ 3) (hp : p.length ≤ 200) (t : List Int) : nextR (fr k p ++ t) = (0, k, p, (p.length : Int) + 7) := by
 have hlen : (fr k p ++ t).length = p.length + 7 + t.length := by simp [fr_len]
 have h0 : byAt (fr k p ++ t) 0 = 0 := by rw [fr_cons]; rfl
 have h1 : byAt (fr k p ++ t) 1 = p.length := by rw [fr_cons]; rfl
 have h2 : byAt (fr k p ++ t) 2 = k := by rw [fr_cons]; rfl
 have hne : fr k p ++ t ≠ [] := by rw [fr_cons]; simp
 have hn : (256 * 0 + (p.length : Int)).toNat = p.length := by omega
 unfold nextR
 rw [h0, h1, h2, hn, if_neg hne, if_neg (by omega), if_neg (by omega), if_neg (by omega), if_neg (by omega)]
 have e1 : (fr k p ++ t).take (p.length + 3) = 0 :: (p.length : Int) :: k :: p := by
  rw [fr_cons]; simp
 have e2 : (fr k p ++ t).take (p.length + 7) = fr k p := by
  rw [List.take_append_of_le_length (by rw [fr_len]; omega), List.take_of_length_le (by rw [fr_len]; omega)]
 rw [e1, e2, if_pos (show sealB (0 :: (p.length : Int) :: k :: p) = fr k p from rfl)]
 simp

theorem nextR_cut {k : Int} {p : List Int} (hp : p.length ≤ 200) {j : Nat} (h0 : 0 < j) (h1 : j < p.length + 7) : nextR ((fr k p).take j) = (2, 0, [], 0) := by
 have hlen : ((fr k p).take j).length = j := by rw [List.length_take, fr_len]; omega
 have hne : (fr k p).take j ≠ [] := by intro e; rw [e] at hlen; simp at hlen; omega
 unfold nextR
 rw [if_neg hne]
 by_cases h7 : ((fr k p).take j).length < 7
 ·rw [if_pos h7]
 ·rw [if_neg h7]
  have e0 : byAt ((fr k p).take j) 0 = 0 ∧ byAt ((fr k p).take j) 1 = p.length := by
   have := fr_cons k p []
   rw [List.append_nil] at this
   rw [this]
   match j, h7, hlen with
   | j + 2, _, _ => exact ⟨rfl, rfl⟩
   | 1, h7, hlen => omega
   | 0, h7, hlen => omega
  rw [e0.1, e0.2, if_neg (by omega), if_pos (by omega)]

abbrev scanS (d : Sc) (st sz : Int) : SV := .agg [I d.num, I d.bs, I d.ba, SL 1 [], SL 7 (evR d.ev), I d.s, I d.a, SL 1 (nR d.m), I st, I sz]

structure RdO (l : List Int) (d : Sc) (st : Int) : Prop where
 ok : ScOK d
 pre : segL d <+: l
 ext : (∃ w k p n, w ≠ 0 ∧ nextR (l.drop (segL d).length) = (w, k, p, n) ∧ st = endW w d.sl) ∨ (∃ k p n, nextR (l.drop (segL d).length) = (0, k, p, n) ∧ TakeO d k p false d ∧ st = 3)


theorem numB_len {e : EvD} (h : chkE e = 0) : (numB e).length ≤ 30 := by
 have hr := numI_range h
 have hl : (numI e.k e.x e.y e.z).length ≤ 3 := by unfold numI; simp; omega
 unfold numB
 have : ∀ l : List Int, (∀ n ∈ l, 0 ≤ n ∧ n ≤ 2147483647) → (l.flatMap fun n => leb n.toNat).length ≤ 10 * l.length := by
  intro l
  induction l with
  | nil => intro _; simp
  | cons x l ih =>
   intro h
   have h1 := ih fun n hn => h n (by simp [hn])
   have h2 := h x (by simp)
   have h3 : (leb x.toNat).length ≤ 10 := leb_small (by omega)
   simp only [List.flatMap_cons, List.length_append, List.length_cons]
   omega
 have := this _ hr
 omega

theorem encL_len {cs ca : Int} {l : List ByteArray} {e : EvD} (ok : EncOK cs ca l e) : (encL cs ca l e).length ≤ 120 := by
 obtain ⟨h1, h2, h3, h4, h5⟩ := chkE_zero ok.chk
 have hc := ctxB_iff.1 ok.ctx
 have hl := (rgtB_iff.1 hc.2).1
 have hp := plc_le (l := l) (s := e.c)
 have b1 : (leb e.k.toNat).length ≤ 10 := leb_small (by omega)
 have b2 : (leb (e.s - cs).toNat).length ≤ 10 := leb_small (by omega)
 have b3 : (leb (e.a - ca).toNat).length ≤ 10 := leb_small (by omega)
 have b4 : (leb (plc l e.c)).length ≤ 10 := leb_small (by omega)
 have b5 : (leb e.c.size).length ≤ 10 := leb_small (by omega)
 have b6 := numB_len ok.chk
 have b7 : (txB e.c).length = e.c.size := by simp [txB]
 unfold encL
 simp only [List.length_append]
 have b8 : (if plc l e.c = 0 then leb e.c.size ++ txB e.c else []).length ≤ 34 := by
  split
  ·rw [List.length_append]; omega
  ·simp
 omega

def mkOK (n s a : Int) (m : List ByteArray) (l : List EvD) : Prop := headOK n s a ∧ m = [] ∧ okL s a [] l
def mkS (n s a : Int) (l : List EvD) (sl : Bool) : Sc := ⟨n, s, a, l, (fin3 s a [] l).1, (fin3 s a [] l).2.1, (fin3 s a [] l).2.2, sl⟩


theorem fr_inj {k k' : Int} {p p' t t' : List Int} (h : fr k p ++ t = fr k' p' ++ t') : k = k' ∧ p = p' ∧ t = t' := by
 have h0 := h
 rw [fr_cons, fr_cons] at h
 simp only [List.cons.injEq, true_and] at h
 obtain ⟨h1, rfl, h2⟩ := h
 have h3 := (List.append_inj h2 (by omega)).1
 subst h3
 exact ⟨rfl, rfl, List.append_cancel_left h0⟩

theorem hdP_inj {n s a n' s' a' : Int} (h : headOK n s a) (h' : headOK n' s' a') (e : hdP n s a = hdP n' s' a') : n = n' ∧ s = s' ∧ a = a' := by
 obtain ⟨h1, h2⟩ := h
 obtain ⟨h3, h4⟩ := h'
 unfold ctxOK at h2 h4
 have e := List.append_cancel_left e
 obtain ⟨e1, e⟩ := leb_inj _ _ _ _ e
 obtain ⟨e2, e⟩ := leb_inj _ _ _ _ e
 obtain ⟨e3, _⟩ := leb_inj _ _ [] [] (by simpa using e)
 omega

theorem recL_app : ∀ (p q : List EvD) (s a : Int) (m : List ByteArray), recL s a m (p ++ q) = recL s a m p ++ recL (fin3 s a m p).1 (fin3 s a m p).2.1 (fin3 s a m p).2.2 q
 | [], q, s, a, m => rfl
 | x :: p, q, s, a, m => by simp [recL, recL_app p q, fin3]
theorem okL_app : ∀ (p q : List EvD) (s a : Int) (m : List ByteArray), okL s a m (p ++ q) → okL (fin3 s a m p).1 (fin3 s a m p).2.1 (fin3 s a m p).2.2 q
 | [], q, s, a, m, h => h
 | x :: p, q, s, a, m, h => okL_app p q x.s x.a _ h.2

theorem recL_cmp : ∀ (p q : List EvD) (s a : Int) (m : List ByteArray) (x y : List Int), okL s a m p → okL s a m q → recL s a m p ++ x = recL s a m q ++ y →
  (∃ u, q = p ++ u ∧ x = recL (fin3 s a m p).1 (fin3 s a m p).2.1 (fin3 s a m p).2.2 u ++ y) ∨ (∃ u, p = q ++ u ∧ y = recL (fin3 s a m q).1 (fin3 s a m q).2.1 (fin3 s a m q).2.2 u ++ x)
 | [], q, s, a, m, x, y, _, _, h => .inl ⟨q, rfl, h⟩
 | e :: p, [], s, a, m, x, y, _, _, h => .inr ⟨e :: p, rfl, h.symm⟩
 | e :: p, e' :: q, s, a, m, x, y, h1, h2, h => by
  simp only [recL, List.append_assoc] at h
  obtain ⟨_, h3, h4⟩ := fr_inj h
  obtain ⟨rfl, _⟩ := enc_inj (r := []) (r' := []) h1.1 h2.1 (by rw [h3])
  rcases recL_cmp p q _ _ _ x y h1.2 h2.2 h4 with ⟨u, rfl, hu⟩ | ⟨u, rfl, hu⟩
  ·exact .inl ⟨u, rfl, hu⟩
  ·exact .inr ⟨u, rfl, hu⟩

def Beg (d t : Sc) : Prop := d = sc0 ∨ (d.num ≠ 0 ∧ d.num = t.num ∧ d.bs = t.bs ∧ d.ba = t.ba ∧ (∃ u, t.ev = d.ev ++ u ∧ (d.sl = true → u = [])) ∧ (d.sl = true → t.sl = true))

def slx (d : Sc) : List Int := if d.sl = true then fr 3 (slP d.ev.length d.s d.a) else []
theorem segL_pos {d : Sc} (h : d.num ≠ 0) : segL d = fr 1 (hdP d.num d.bs d.ba) ++ (recL d.bs d.ba [] d.ev ++ slx d) := by unfold segL; rw [if_neg h]; rfl

theorem seg_cmp {d t : Sc} (hd : ScOK d) (ht : ScOK t) {x y : List Int} (h : segL d ++ x = segL t ++ y) : Beg d t ∨ Beg t d := by
 by_cases h1 : d.num = 0
 ·exact .inl (.inl (hd.zero h1))
 by_cases h2 : t.num = 0
 ·exact .inr (.inl (ht.zero h2))
 rw [segL_pos h1, segL_pos h2] at h
 simp only [List.append_assoc] at h
 obtain ⟨_, h3, h4⟩ := fr_inj h
 obtain ⟨e1, e2, e3⟩ := hdP_inj (hd.head h1) (ht.head h2) h3
 have o1 := hd.evs h1
 have o2 := ht.evs h2
 rw [e2, e3] at h4 o1
 rcases recL_cmp _ _ _ _ _ _ _ o1 o2 h4 with ⟨u, hu, hx⟩ | ⟨u, hu, hx⟩
 ·cases hs : d.sl with
  | false => exact .inl (.inr ⟨h1, e1, e2, e3, ⟨u, hu, fun e => by rw [hs] at e; cases e⟩, fun e => by rw [hs] at e; cases e⟩)
  | true =>
   have hu0 : u = [] := by
    cases u with
    | nil => rfl
    | cons e u =>
     simp only [slx, hs, if_true, recL, List.append_assoc] at hx
     have := (fr_inj hx).1
     omega
   subst hu0
   cases hs2 : t.sl with
   | true => exact .inl (.inr ⟨h1, e1, e2, e3, ⟨[], hu, fun _ => rfl⟩, fun _ => hs2⟩)
   | false => exact .inr (.inr ⟨h2, e1.symm, e2.symm, e3.symm, ⟨[], by simpa using hu.symm, fun _ => rfl⟩, fun e => by rw [hs2] at e; cases e⟩)
 ·cases hs : t.sl with
  | false => exact .inr (.inr ⟨h2, e1.symm, e2.symm, e3.symm, ⟨u, hu, fun e => by rw [hs] at e; cases e⟩, fun e => by rw [hs] at e; cases e⟩)
  | true =>
   have hu0 : u = [] := by
    cases u with
    | nil => rfl
    | cons e u =>
     simp only [slx, hs, if_true, recL, List.append_assoc] at hx
     have := (fr_inj hx).1
     omega
   subst hu0
   cases hs2 : d.sl with
   | true => exact .inl (.inr ⟨h1, e1, e2, e3, ⟨[], by simpa using hu.symm, fun _ => rfl⟩, fun _ => hs⟩)
   | false => exact .inl (.inr ⟨h1, e1, e2, e3, ⟨[], by simpa using hu.symm, fun _ => rfl⟩, fun e => by rw [hs2] at e; cases e⟩)

theorem Sc.eq {d t : Sc} (hd : ScOK d) (ht : ScOK t) (h0 : d.num ≠ 0) (h1 : d.num = t.num) (h2 : d.bs = t.bs) (h3 : d.ba = t.ba) (h4 : d.ev = t.ev) (h5 : d.sl = t.sl) : d = t := by
 have f1 := hd.fin h0
 have f2 := ht.fin (h1 ▸ h0)
 rw [h2, h3, h4, ← f2] at f1
 obtain ⟨n, bs, ba, ev, s, a, m, sl⟩ := d
 obtain ⟨n', bs', ba', ev', s', a', m', sl'⟩ := t
 simp only at h1 h2 h3 h4 h5 f1
 simp only [Prod.mk.injEq] at f1
 obtain ⟨g1, g2, g3⟩ := f1
 subst h1 h2 h3 h4 h5 g1 g2 g3
 rfl

theorem okL_seq : ∀ (l : List EvD) (s a : Int) (m : List ByteArray), okL s a m l → s + l.length ≤ (fin3 s a m l).1
 | [], s, _, _, _ => by simp [fin3]
 | e :: l, s, a, m, h => by
  have h1 := okL_seq l e.s e.a _ h.2
  have h2 := h.1.seq
  simp only [fin3, List.length_cons]
  omega

theorem Beg.next {d t : Sc} (hd : ScOK d) (ht : ScOK t) (h : Beg d t) : d = t ∨ (d.sl = false ∧ ∃ k p r, segL t = segL d ++ (fr k p ++ r) ∧ (1 ≤ k ∧ k ≤ 3) ∧ p.length ≤ 200 ∧ ¬ TakeO d k p false d) := by
 rcases h with rfl | ⟨h0, h1, h2, h3, ⟨u, hu, hs⟩, hl⟩
 ·by_cases hn : t.num = 0
  ·exact .inl (ht.zero hn).symm
  have hh := ht.head hn
  have hh' := hh
  unfold headOK ctxOK at hh'
  have := hdP_len (n := t.num) (s := t.bs) (a := t.ba) (by omega) (by omega) (by omega)
  refine .inr ⟨rfl, 1, _, _, by rw [segL_pos hn]; rfl, by omega, by omega, ?_⟩
  intro tk
  cases tk with
  | no g1 g2 g3 => exact g1 rfl rfl rfl _ _ _ hh rfl
 ·have hn : t.num ≠ 0 := h1 ▸ h0
  have o := ht.evs hn
  have hf := hd.fin h0
  rw [h2, h3] at hf
  have e1 : (fin3 t.bs t.ba [] d.ev).1 = d.s := by rw [← hf]
  have e2 : (fin3 t.bs t.ba [] d.ev).2.1 = d.a := by rw [← hf]
  have e3 : (fin3 t.bs t.ba [] d.ev).2.2 = d.m := by rw [← hf]
  have hsT : segL t = fr 1 (hdP d.num d.bs d.ba) ++ (recL d.bs d.ba [] d.ev ++ (recL d.s d.a d.m u ++ slx t)) := by
   rw [segL_pos hn, h1, h2, h3, hu, recL_app, e1, e2, e3]; simp
  cases u with
  | cons e u =>
   have hsl : d.sl = false := by
    cases h : d.sl with
    | false => rfl
    | true => exact absurd (hs h) (by simp)
   rw [hu] at o
   have o := okL_app _ _ _ _ _ o
   rw [e1, e2, e3] at o
   have := encL_len o.1
   refine .inr ⟨hsl, 2, encL d.s d.a d.m e, recL e.s e.a (bhdN d.m e.c) u ++ slx t, ?_, by omega, by omega, ?_⟩
   ·rw [hsT, segL_pos h0]; simp [recL, slx, hsl]
   ·intro tk
    cases tk with
    | no g1 g2 g3 => exact g2 hsl h0 rfl e o.1 rfl
  | nil =>
   have hev : d.ev = t.ev := by simpa using hu.symm
   by_cases hsl : d.sl = t.sl
   ·exact .inl (Sc.eq hd ht h0 h1 h2 h3 hev hsl)
   have hs1 : d.sl = false := by
    cases h : d.sl with
    | false => rfl
    | true => exact absurd (h.trans (hl h).symm) hsl
   have hs2 : t.sl = true := by
    cases h : t.sl with
    | true => rfl
    | false => exact absurd (hs1.trans h.symm) hsl
   have hft := ht.fin hn
   rw [← hev, ← hf] at hft
   simp only [Prod.mk.injEq] at hft
   obtain ⟨f1, f2, _⟩ := hft
   have hc := hd.ctx h0
   unfold ctxOK at hc
   have hle : (slP d.ev.length d.s d.a).length ≤ 200 := by
    have b2 : (leb d.s.toNat).length ≤ 10 := leb_small (by omega)
    have b3 : (leb d.a.toNat).length ≤ 10 := leb_small (by omega)
    have hq := okL_seq _ _ _ _ (hd.evs h0)
    rw [← hd.fin h0] at hq
    have hh := (hd.head h0).2
    unfold ctxOK at hh
    have b1 : (leb (d.ev.length : Int).toNat).length ≤ 10 := leb_small (by omega)
    simp [slP] at b1 ⊢
    omega
   refine .inr ⟨hs1, 3, slP d.ev.length d.s d.a, [], ?_, by omega, hle, ?_⟩
   ·rw [hsT, segL_pos h0]; simp [recL, slx, hs1, hs2, hev, f1, f2]
   ·intro tk
    cases tk with
    | no g1 g2 g3 => exact g3 hs1 h0 rfl rfl

theorem Beg.len {d t : Sc} (hd : ScOK d) (ht : ScOK t) (h : Beg d t) : (segL d).length ≤ (segL t).length ∧ ((segL d).length = (segL t).length → d = t) := by
 rcases h.next hd ht with rfl | ⟨_, k, p, r, h1, _, _, _⟩
 ·exact ⟨Nat.le_refl _, fun _ => rfl⟩
 ·rw [h1]
  simp only [List.length_append, fr_len]
  exact ⟨by omega, fun h => by omega⟩

theorem RdO.far {l : List Int} {d t : Sc} {st : Int} (h : RdO l d st) (ht : ScOK t) (hp : segL t <+: l) : Beg t d := by
 obtain ⟨x, hx⟩ := h.pre
 obtain ⟨y, hy⟩ := hp
 rcases seg_cmp h.ok ht (hx.trans hy.symm) with hb | hb
 ·rcases hb.next h.ok ht with rfl | ⟨hs, k, p, r, h1, h2, h3, h4⟩
  ·by_cases hn : d.num = 0
   ·exact .inl (h.ok.zero hn)
   ·exact .inr ⟨hn, rfl, rfl, rfl, ⟨[], by simp, fun _ => rfl⟩, id⟩
  ·exfalso
   have hdr : l.drop (segL d).length = fr k p ++ (r ++ y) := by
    rw [← hy, h1]; simp
   have hx := h.ext
   rw [hdr, nextR_fr h2 h3] at hx
   rcases hx with ⟨w, k', p', n, hw, e, _⟩ | ⟨k', p', n, e, tk, _⟩
   ·simp only [Prod.mk.injEq] at e
    exact hw e.1.symm
   ·simp only [Prod.mk.injEq, true_and] at e
    obtain ⟨rfl, rfl, _⟩ := e
    exact h4 tk
 ·exact hb

theorem RdO.whole {d t : Sc} {st : Int} (h : RdO (segL t) d st) (ht : ScOK t) : d = t ∧ st = endW 1 t.sl := by
 have hb := h.far ht (List.prefix_refl _)
 have hl := hb.len ht h.ok
 have hle := h.pre.length_le
 have e := hl.2 (by omega)
 subst e
 refine ⟨rfl, ?_⟩
 have hx := h.ext
 rw [List.drop_length] at hx
 rcases hx with ⟨w, k', p', n, hw, e, hst⟩ | ⟨k', p', n, e, tk, _⟩
 ·simp only [nextR, if_true, Prod.mk.injEq] at e
  rw [hst, ← e.1]
 ·simp [nextR] at e

theorem RdO.st4 {l : List Int} {d : Sc} {st : Int} (h : RdO l d st) (hs : d.sl = false) : st ≠ 4 := by
 rcases h.ext with ⟨w, k, p, n, hw, e, hst⟩ | ⟨k, p, n, e, tk, hst⟩
 ·rw [hst, hs]
  unfold endW
  split
  ·simp
  ·split <;> omega
 ·omega

theorem RdO.cut {t d : Sc} {j : Nat} {st : Int} (ht : ScOK t) (hj : j < (segL t).length) (h : RdO ((segL t).take j) d st) : Beg d t ∧ (segL d).length ≤ j ∧ d.sl = false ∧ ((st = 1 ∧ (segL d).length = j) ∨ st = 2) := by
 have hlj : ((segL t).take j).length = j := by simp; omega
 have hle := h.pre.length_le
 rw [hlj] at hle
 obtain ⟨x, hx⟩ := h.pre
 have hb : Beg d t := by
  rcases seg_cmp h.ok ht (x := x ++ (segL t).drop j) (y := []) (by rw [← List.append_assoc, hx]; simp) with hb | hb
  ·exact hb
  ·have := (hb.len ht h.ok).1
   omega
 refine ⟨hb, hle, ?_⟩
 rcases hb.next h.ok ht with e | ⟨hs, k, p, r, h1, h2, h3, h4⟩
 ·subst e; omega
 refine ⟨hs, ?_⟩
 have hdr : ((segL t).take j).drop (segL d).length = (fr k p ++ r).take (j - (segL d).length) := by
  rw [List.drop_take, h1]; simp
 have hx := h.ext
 rw [hdr] at hx
 by_cases h0 : (segL d).length = j
 ·left
  have e0 : j - (segL d).length = 0 := by omega
  rw [e0] at hx
  rcases hx with ⟨w, k', p', n, hw, e, hst⟩ | ⟨k', p', n, e, tk, _⟩
  ·simp only [List.take_zero, nextR, if_true, Prod.mk.injEq] at e
   rw [hst, ← e.1, hs]
   exact ⟨rfl, h0⟩
  ·simp [nextR] at e
 ·right
  by_cases h7 : j - (segL d).length < p.length + 7
  ·have e2 : (fr k p ++ r).take (j - (segL d).length) = (fr k p).take (j - (segL d).length) := by
    rw [List.take_append_of_le_length (by rw [fr_len]; omega)]
   rw [e2, nextR_cut h3 (by omega) h7] at hx
   rcases hx with ⟨w, k', p', n, hw, e, hst⟩ | ⟨k', p', n, e, tk, _⟩
   ·simp only [Prod.mk.injEq] at e
    rw [hst, ← e.1, hs]
    rfl
   ·simp at e
  ·exfalso
   have e2 : (fr k p ++ r).take (j - (segL d).length) = fr k p ++ r.take (j - (segL d).length - (p.length + 7)) := by
    rw [List.take_append, List.take_of_length_le (by rw [fr_len]; omega), fr_len]
   rw [e2, nextR_fr h2 h3] at hx
   rcases hx with ⟨w, k', p', n, hw, e, _⟩ | ⟨k', p', n, e, tk, _⟩
   ·simp only [Prod.mk.injEq] at e
    exact hw e.1.symm
   ·simp only [Prod.mk.injEq, true_and] at e
    obtain ⟨rfl, rfl, _⟩ := e
    exact h4 tk

end Go.Proofs.YtbocfphenkidnaaGreatDoor.Seg
