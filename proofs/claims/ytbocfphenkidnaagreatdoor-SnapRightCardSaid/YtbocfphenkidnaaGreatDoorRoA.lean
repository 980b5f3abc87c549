/- Layer 16: states as bytes, plain data: what the bytes of a component and of a state are, and that they are read in one way only. -/
import Derived.Test.YtbocfphenkidnaaGreatDoorCodB
import Derived.Test.YtbocfphenkidnaaGreatDoorStA
namespace Go.Proofs.YtbocfphenkidnaaGreatDoor.Row
open Go Go.Px Go.Proofs Cmp Go.Proofs.YtbocfphenkidnaaGreatDoor.St Cod
set_option maxRecDepth 100000
set_option linter.unusedVariables false

def rng (n : Int) : Prop := 0 ≤ n ∧ n ≤ 9223372036854775807
def encN (l : List Int) : List Int := l.flatMap fun n => leb n.toNat
theorem encN_app (l m : List Int) : encN (l ++ m) = encN l ++ encN m := by simp [encN]
theorem encN_one (n : Int) : encN [n] = leb n.toNat := by simp [encN]
theorem encN_nil : encN [] = [] := rfl
def flat (cl : List (Int × Int)) : List Int := cl.flatMap fun p => [p.1, p.2]
theorem flat_app (l m : List (Int × Int)) : flat (l ++ m) = flat l ++ flat m := by simp [flat]
theorem flat_len (l : List (Int × Int)) : (flat l).length = 2 * l.length := by
 induction l with
 | nil => rfl
 | cons x l ih => simp only [flat, List.flatMap_cons, List.length_append, List.length_cons, List.length_nil] at ih ⊢; omega
theorem flat_inj : ∀ {l m : List (Int × Int)}, flat l = flat m → l = m
 | [], [], _ => rfl
 | [], y :: m, h => by simp [flat] at h
 | x :: l, [], h => by simp [flat] at h
 | x :: l, y :: m, h => by
  simp only [flat, List.flatMap_cons, List.cons_append, List.nil_append, List.cons.injEq] at h
  obtain ⟨h1, h2, h3⟩ := h
  rw [flat_inj (l := l) (m := m) h3]
  congr 1
  exact Prod.ext h1 h2

def bas (ro mo wd sl : Int) (cl : List (Int × Int)) : List Int := [ro, mo] ++ (if ro = 1 then [wd, sl, (cl.length : Int)] ++ flat cl else [])
def hst (ro : Int) (hs : List Int) : List Int := if ro = 1 ∨ ro = 3 then hs else []
def bck (ro : Int) (bs : List Int) : List Int := if ro = 2 ∨ ro = 3 then bs else []
def numC (c : CoD) : List Int := bas c.ro c.mo c.wd c.sl c.cl ++ (hst c.ro [c.h0, c.h1, c.h2, c.h3, c.h4, c.h5, c.h6, c.h7, c.h8, c.hs] ++ (bck c.ro [c.rm, c.ha] ++ [c.c0, c.c1, c.c2]))
def encC (c : CoD) : List Int := leb c.nm.size ++ (txB c.nm ++ encN (numC c))
def encS (d : StD) : List Int := leb d.cs.length ++ (d.cs.flatMap encC ++ (leb d.q.toNat ++ leb d.t.toNat))

def zro (c : CoD) : Prop := (c.ro ≠ 1 → c.wd = 0 ∧ c.sl = 0 ∧ c.cl = []) ∧ (c.ro ≠ 1 → c.ro ≠ 3 → c.h0 = 0 ∧ c.h1 = 0 ∧ c.h2 = 0 ∧ c.h3 = 0 ∧ c.h4 = 0 ∧ c.h5 = 0 ∧ c.h6 = 0 ∧ c.h7 = 0 ∧ c.h8 = 0 ∧ c.hs = 0) ∧ (c.ro ≠ 2 → c.ro ≠ 3 → c.rm = 0 ∧ c.ha = 0)
structure shp (c : CoD) : Prop where
 z : zro c
 r : 1 ≤ c.ro ∧ c.ro ≤ 3
 nm : c.nm.size ≤ 24
 cl : c.cl.length ≤ 16
 n : ∀ n ∈ numC c, rng n

theorem shp_of {c : CoD} (h : c.P) : shp c ∧ ∀ n ∈ numC c, 0 ≤ n ∧ n ≤ 1099511627776 := by
 obtain ⟨⟨h1, h2⟩, h3⟩ := h
 simp only [namB, decide_eq_true_eq] at h1
 obtain ⟨k0, k1, k2⟩ := h2
 unfold heldP at k0 k1 k2
 have key : zro c ∧ (1 ≤ c.ro ∧ c.ro ≤ 3) ∧ c.cl.length ≤ 16 ∧ ∀ n ∈ numC c, 0 ≤ n ∧ n ≤ 1099511627776 := by
  unfold CoD.roleP at h3
  split at h3
  ·rename_i hr
   obtain ⟨⟨m, w1, w2, w3, w4⟩, hh, hb⟩ := h3
   simp only [CoD.his, hisP, heldP] at hh
   refine ⟨⟨fun e => absurd hr e, fun e => absurd hr e, fun _ _ => hb⟩, by omega, w3.2, fun n hn => ?_⟩
   simp only [numC, bas, hst, bck, hr, if_true, List.mem_append] at hn
   unfold timP at w2
   rcases hn with hn | hn | hn | hn
   ·simp only [List.mem_cons, List.not_mem_nil, or_false] at hn
    rcases hn with (rfl | rfl) | (rfl | rfl | rfl) | hn <;> try omega
    simp only [flat, List.mem_flatMap, List.mem_cons, List.not_mem_nil, or_false] at hn
    obtain ⟨p, hp, rfl | rfl⟩ := hn
    ·have := w4 p hp; unfold heldP at this; omega
    ·have := w4 p hp; unfold heldP at this; omega
   ·simp at hn
    rcases hn with rfl | rfl | rfl | rfl | rfl | rfl | rfl | rfl | rfl | rfl <;> omega
   ·simp at hn
   ·simp at hn; rcases hn with rfl | rfl | rfl <;> omega
  ·rename_i hr
   split at h3
   ·rename_i hr2
    obtain ⟨⟨⟨m, w1, w2, w3⟩, hh, hh2⟩, hb⟩ := h3
    unfold bktP at hb
    refine ⟨⟨fun _ => ⟨w1, w2, w3⟩, fun _ _ => ⟨hh.1, hh.2.1, hh.2.2.1, hh.2.2.2.1, hh.2.2.2.2.1, hh.2.2.2.2.2.1, hh.2.2.2.2.2.2.1, hh.2.2.2.2.2.2.2.1, hh.2.2.2.2.2.2.2.2, hh2⟩, fun e => absurd hr2 e⟩, by omega, by rw [w3]; simp, fun n hn => ?_⟩
    simp only [numC, bas, hst, bck, hr2, List.mem_append] at hn
    simp at hn
    rcases hn with (rfl | rfl) | (rfl | rfl) | rfl | rfl | rfl <;> omega
   ·obtain ⟨hr3, ⟨m, w1, w2, w3⟩, hh, hb⟩ := h3
    simp only [CoD.his, hisP, heldP] at hh
    unfold bktP at hb
    refine ⟨⟨fun _ => ⟨w1, w2, w3⟩, fun _ e => absurd hr3 e, fun _ e => absurd hr3 e⟩, by omega, by rw [w3]; simp, fun n hn => ?_⟩
    simp only [numC, bas, hst, bck, hr3, List.mem_append] at hn
    simp at hn
    rcases hn with (rfl | rfl) | (rfl | rfl | rfl | rfl | rfl | rfl | rfl | rfl | rfl | rfl) | (rfl | rfl) | rfl | rfl | rfl <;> omega
 exact ⟨⟨key.1, key.2.1, h1.2, key.2.2.1, fun n hn => ⟨(key.2.2.2 n hn).1, by have := (key.2.2.2 n hn).2; omega⟩⟩, key.2.2.2⟩

theorem bas_len (ro mo wd sl : Int) (cl : List (Int × Int)) : (bas ro mo wd sl cl).length = if ro = 1 then 5 + 2 * cl.length else 2 := by
 unfold bas; split
 ·simp [flat_len]; omega
 ·rfl
theorem hst_len (ro : Int) (l : List Int) : (hst ro l).length = if ro = 1 ∨ ro = 3 then l.length else 0 := by unfold hst; split <;> simp
theorem bck_len (ro : Int) (l : List Int) : (bck ro l).length = if ro = 2 ∨ ro = 3 then l.length else 0 := by unfold bck; split <;> simp

theorem pre_ro {c : CoD} {ro mo : Int} {x : List Int} (h : ([ro, mo] ++ x) <+: numC c) : c.ro = ro ∧ c.mo = mo := by
 obtain ⟨t, h⟩ := h
 simp only [numC, bas, List.cons_append, List.nil_append, List.cons.injEq] at h
 exact ⟨h.1.symm, h.2.1.symm⟩
theorem pre_win {c : CoD} {mo wd sl k : Int} {x : List Int} (h : ([1, mo, wd, sl, k] ++ x) <+: numC c) : c.ro = 1 ∧ c.mo = mo ∧ c.wd = wd ∧ c.sl = sl ∧ (c.cl.length : Int) = k := by
 have h0 := (pre_ro (x := [wd, sl, k] ++ x) (by simpa using h)).1
 obtain ⟨t, h⟩ := h
 simp only [numC, bas, h0, if_true, List.cons_append, List.nil_append, List.cons.injEq] at h
 exact ⟨h0, h.2.1.symm, h.2.2.1.symm, h.2.2.2.1.symm, h.2.2.2.2.1.symm⟩
theorem pre_bas {c : CoD} {ro mo wd sl : Int} {cl : List (Int × Int)} {x : List Int} (h : (bas ro mo wd sl cl ++ x) <+: numC c) :
  c.ro = ro ∧ (numC c).length = (bas ro mo wd sl cl).length + ((if ro = 1 ∨ ro = 3 then 10 else 0) + ((if ro = 2 ∨ ro = 3 then 2 else 0) + 3)) := by
 have h0 := (pre_ro (x := (if ro = 1 then [wd, sl, (cl.length : Int)] ++ flat cl else []) ++ x) (by simpa [bas] using h)).1
 refine ⟨h0, ?_⟩
 simp only [numC, List.length_append, bas_len, hst_len, bck_len, h0]
 by_cases h1 : ro = 1
 ·subst h1
  have := (pre_win (x := flat cl ++ x) (by simpa [bas] using h)).2.2.2.2
  simp; omega
 ·simp [h1]

theorem numC_len {c : CoD} : 5 ≤ (numC c).length := by
 simp only [numC, bas, List.length_append, List.length_cons, List.length_nil]; omega

theorem app_pre {a b x y : List Int} (h : (a ++ x) <+: (b ++ y)) (hl : a.length = b.length) : a = b ∧ x <+: y := by
 obtain ⟨t, h⟩ := h
 rw [List.append_assoc] at h
 obtain ⟨h1, h2⟩ := List.append_inj h hl
 exact ⟨h1, ⟨t, h2⟩⟩

theorem numC_inj {c d : CoD} (hc : zro c) (hd : zro d) (hn : c.nm = d.nm) (h : numC c <+: numC d) : c = d := by
 have h0 := pre_bas (c := d) (by simpa [numC] using h)
 obtain ⟨hro, hlen⟩ := h0
 have h1 : (bas c.ro c.mo c.wd c.sl c.cl).length = (bas d.ro d.mo d.wd d.sl d.cl).length := by
  have : (numC d).length = (bas d.ro d.mo d.wd d.sl d.cl).length + ((if d.ro = 1 ∨ d.ro = 3 then 10 else 0) + ((if d.ro = 2 ∨ d.ro = 3 then 2 else 0) + 3)) := by
   simp only [numC, List.length_append, hst_len, bck_len, List.length_cons, List.length_nil]
  rw [hro] at this ⊢
  omega
 obtain ⟨e1, h2⟩ := app_pre h h1
 have h3 : (hst c.ro [c.h0, c.h1, c.h2, c.h3, c.h4, c.h5, c.h6, c.h7, c.h8, c.hs]).length = (hst d.ro [d.h0, d.h1, d.h2, d.h3, d.h4, d.h5, d.h6, d.h7, d.h8, d.hs]).length := by
  simp only [hst_len, hro]; rfl
 obtain ⟨e2, h4⟩ := app_pre h2 h3
 have h5 : (bck c.ro [c.rm, c.ha]).length = (bck d.ro [d.rm, d.ha]).length := by simp only [bck_len, hro]; rfl
 obtain ⟨e3, h6⟩ := app_pre h4 h5
 have e4 : c.c0 = d.c0 ∧ c.c1 = d.c1 ∧ c.c2 = d.c2 := by
  obtain ⟨t, h6⟩ := h6
  simp at h6; exact ⟨h6.1, h6.2.1, h6.2.2.1⟩
 obtain ⟨z1, z2, z3⟩ := hc
 obtain ⟨y1, y2, y3⟩ := hd
 have w : c.mo = d.mo ∧ c.wd = d.wd ∧ c.sl = d.sl ∧ c.cl = d.cl := by
  simp only [bas, hro] at e1
  by_cases hr : c.ro = 1
  ·simp only [hr, if_true, List.cons_append, List.nil_append, List.cons.injEq] at e1
   exact ⟨e1.2.1, e1.2.2.1, e1.2.2.2.1, flat_inj e1.2.2.2.2.2⟩
  ·rw [if_neg hr, if_neg hr] at e1
   obtain ⟨a1, a2, a3⟩ := z1 hr
   obtain ⟨b1, b2, b3⟩ := y1 (by omega)
   simp at e1
   exact ⟨e1, by rw [a1, b1], by rw [a2, b2], by rw [a3, b3]⟩
 have hh : c.h0 = d.h0 ∧ c.h1 = d.h1 ∧ c.h2 = d.h2 ∧ c.h3 = d.h3 ∧ c.h4 = d.h4 ∧ c.h5 = d.h5 ∧ c.h6 = d.h6 ∧ c.h7 = d.h7 ∧ c.h8 = d.h8 ∧ c.hs = d.hs := by
  by_cases hr : c.ro = 1 ∨ c.ro = 3
  ·simp only [hst, hro, if_pos hr, List.cons.injEq] at e2
   exact ⟨e2.1, e2.2.1, e2.2.2.1, e2.2.2.2.1, e2.2.2.2.2.1, e2.2.2.2.2.2.1, e2.2.2.2.2.2.2.1, e2.2.2.2.2.2.2.2.1, e2.2.2.2.2.2.2.2.2.1, e2.2.2.2.2.2.2.2.2.2.1⟩
  ·have a := z2 (fun e => hr (.inl e)) (fun e => hr (.inr e))
   have b := y2 (fun e => hr (.inl (by omega))) (fun e => hr (.inr (by omega)))
   obtain ⟨a0, a1, a2, a3, a4, a5, a6, a7, a8, a9⟩ := a
   obtain ⟨b0, b1, b2, b3, b4, b5, b6, b7, b8, b9⟩ := b
   exact ⟨by rw [a0, b0], by rw [a1, b1], by rw [a2, b2], by rw [a3, b3], by rw [a4, b4], by rw [a5, b5], by rw [a6, b6], by rw [a7, b7], by rw [a8, b8], by rw [a9, b9]⟩
 have hb : c.rm = d.rm ∧ c.ha = d.ha := by
  by_cases hr : c.ro = 2 ∨ c.ro = 3
  ·simp only [bck, hro, if_pos hr, List.cons.injEq] at e3
   exact ⟨e3.1, e3.2.1⟩
  ·obtain ⟨a1, a2⟩ := z3 (fun e => hr (.inl e)) (fun e => hr (.inr e))
   obtain ⟨b1, b2⟩ := y3 (fun e => hr (.inl (by omega))) (fun e => hr (.inr (by omega)))
   exact ⟨by rw [a1, b1], by rw [a2, b2]⟩
 obtain ⟨w1, w2, w3, w4⟩ := w
 obtain ⟨g0, g1, g2, g3, g4, g5, g6, g7, g8, g9⟩ := hh
 cases c; cases d
 simp_all

theorem drop_pre {p x l : List Int} {a : Int} (ha : a = p.length) (h : p ++ x <+: l) : ∃ t, l.drop a.toNat = x ++ t := by
 obtain ⟨t, rfl⟩ := h
 refine ⟨t, ?_⟩
 rw [ha, Int.toNat_natCast, List.append_assoc, List.drop_left]

theorem pre_drop {p x l t : List Int} {a : Int} (ha : a = p.length) (hp : p <+: l) (h : l.drop a.toNat = x ++ t) : p ++ x <+: l := by
 obtain ⟨s, rfl⟩ := hp
 rw [ha, Int.toNat_natCast, List.drop_left] at h
 exact ⟨t, by rw [h, List.append_assoc]⟩

theorem pre_more {p x y l : List Int} (h : p ++ (x ++ y) <+: l) : p ++ x <+: l := by
 obtain ⟨t, h⟩ := h
 exact ⟨y ++ t, by rw [← h]; simp⟩

theorem leb_small {n : Nat} (h : n < 18446744073709551616) : (leb n).length ≤ 10 := leb_len 9 _ (Nat.lt_of_lt_of_le h (by decide))

theorem byts_encN (l : List Int) : Byts (encN l) := fun x hx => by
 obtain ⟨n, _, h⟩ := List.mem_flatMap.1 hx
 exact leb_byte _ _ h
theorem byts_encC (c : CoD) : Byts (encC c) := (byts_leb _).app ((byts_tx _).app (byts_encN _))
theorem byts_encS (d : StD) : Byts (encS d) :=
 (byts_leb _).app (Byts.app (fun x hx => by obtain ⟨c, _, h⟩ := List.mem_flatMap.1 hx; exact byts_encC c x h) ((byts_leb _).app (byts_leb _)))

theorem encN_len {l : List Int} (h : ∀ n ∈ l, rng n) : (encN l).length ≤ 10 * l.length := by
 induction l with
 | nil => simp [encN]
 | cons x l ih =>
  have h1 := ih fun n hn => h n (by simp [hn])
  have h2 := h x (by simp)
  have h3 : (leb x.toNat).length ≤ 10 := leb_small (by have := h2.2; have := h2.1; omega)
  simp only [encN, List.flatMap_cons, List.length_append, List.length_cons] at h1 ⊢
  omega

theorem encC_len {c : CoD} (h : shp c) : (encC c).length ≤ 600 := by
 have h1 := encN_len h.n
 have h2 : (leb c.nm.size).length ≤ 10 := leb_small (by have := h.nm; omega)
 have h3 : (numC c).length ≤ 52 := by
  simp only [numC, List.length_append, bas_len, hst_len, bck_len, List.length_cons, List.length_nil]
  have := h.cl
  split <;> split <;> split <;> omega
 have h4 := h.nm
 simp only [encC, List.length_append, txB_len]
 omega

theorem flatC_len : ∀ {l : List CoD}, (∀ c ∈ l, shp c) → (l.flatMap encC).length ≤ 600 * l.length
 | [], _ => by simp
 | c :: l, h => by
  have h1 := encC_len (h c (by simp))
  have h2 := flatC_len (l := l) fun x hx => h x (by simp [hx])
  simp only [List.flatMap_cons, List.length_append, List.length_cons]
  omega

end Go.Proofs.YtbocfphenkidnaaGreatDoor.Row

namespace Go.Proofs.YtbocfphenkidnaaGreatDoor.Row
open Go Go.Px Go.Proofs Cmp Go.Proofs.YtbocfphenkidnaaGreatDoor.St
set_option maxRecDepth 100000
set_option linter.unusedVariables false

abbrev st3 (rows : List (List SV)) (s a : Int) : SV := .agg [SL 21 rows, I s, I a]
abbrev cu3 (bs : List (List SV)) (a e : Int) : SV := .agg [SL 1 bs, I a, I e]
abbrev rd4 (bs : List (List SV)) (a e : Int) (b : Bool) : SV := .agg [SL 1 bs, I a, I e, B b]
abbrev sL : Sig := ⟨[.lend [false,false,false,false]], []⟩
def SgT : FuncId → Sig := (fun f => bif Nat.beq f 110 then ⟨[], [.own]⟩ else bif Nat.beq f 115 then ⟨[], [.own]⟩ else bif Nat.beq f 54 then ⟨[], [.own]⟩ else bif Nat.beq f 118 then ⟨[], [.own]⟩ else bif Nat.beq f 137 then ⟨[], [.own]⟩ else bif Nat.beq f 147 then sL else bif Nat.beq f 205 then sL else bif Nat.beq f 148 then sL else bif Nat.beq f 206 then sL else {})
def SvT : TypeId → Sig := fun _ => {}
theorem rput_nf (rows ns : LL) (Q : List SV → Prop) (h : ∃ Inv : (LL) → Int → Prop, ∃ m : (LL) → Int → Nat, (Inv rows 0) ∧ (∀ l x, (Inv l x) → ifB (ilt x (rlen ns)) ((((0 : Int) ≤ x) ∧ (x < (rlen ns))) ∧ (∃ x1, (rget ns x = [I x1]) ∧ (Cl Tryz.prog 110 sO [SL 1 l, U64 (wcv .u64 x1)] (fun rs => ∃ l1, (rs = [SL 1 l1]) ∧ (((Option.some [] : Option (LL)) = Option.some []) ∧ ((Inv l1 (wadd .i64 x 1)) ∧ (Nat.le (Nat.succ (m l1 (wadd .i64 x 1))) (m l x)))))))) (Q [SL 1 l]))) : Ct Tryz.prog 134 {} [SL 1 rows, SL 1 ns] Q :=
 fn_of (f := 134) SgT SvT (fun k => bif Nat.beq k 10 then some { slots := [(0,false,[.sl 1]),(9,false,[.int .i64])], fixed := [] } else none) Tryz.f134 Tryz.func134 (by kernel_rfl) (by kernel_rfl) h

theorem putc_nf (rows : LL) (nm : ByteArray) (ro mo wd sl : Int) (cl : LL) (h0 h1 h2 h3 h4 h5 h6 h7 h8 hs rm ha c0 c1 c2 : Int) (Q : List SV → Prop) (h : Cl Tryz.prog 115 sO [SL 1 rows, S nm] (fun rs => ∃ l, (rs = [SL 1 l]) ∧ (Cl Tryz.prog 134 sP ([SL 1 l, SL 1 ([[I ro], [I mo]])]) (fun rs1 => ∃ l1, (rs1 = [SL 1 l1]) ∧ (∃ Inv : (LL) → Prop, ∃ m : (LL) → Nat, (ifB (ieq ro 1) (Cl Tryz.prog 134 sP ([SL 1 l1, SL 1 ([[I wd], [I sl], [I (rlen cl)]])]) (fun rs2 => ∃ l2, (rs2 = [SL 1 l2]) ∧ (∃ Inv1 : (LL) → Int → Prop, ∃ m1 : (LL) → Int → Nat, (Inv1 l2 0) ∧ (∀ l3 x, (Inv1 l3 x) → ifB (ilt x (rlen cl)) ((((0 : Int) ≤ x) ∧ (x < (rlen cl))) ∧ (∃ x1 x2, (rget cl x = [I x1, I x2]) ∧ (Cl Tryz.prog 134 sP ([SL 1 l3, SL 1 ([[I x1], [I x2]])]) (fun rs3 => ∃ l4, (rs3 = [SL 1 l4]) ∧ ((Sm (some ([[S nm, I ro, I mo, I wd, I sl, SL 2 cl, I h0, I h1, I h2, I h3, I h4, I h5, I h6, I h7, I h8, I hs, I rm, I ha, I c0, I c1, I c2], [SV.gd 0 true (SL 0 [])]]))) ∧ ((Inv1 l4 (wadd .i64 x 1)) ∧ (Nat.le (Nat.succ (m1 l4 (wadd .i64 x 1))) (m1 l3 x)))))))) ((Sm (some ([[S nm, I ro, I mo, I wd, I sl, SL 2 cl, I h0, I h1, I h2, I h3, I h4, I h5, I h6, I h7, I h8, I hs, I rm, I ha, I c0, I c1, I c2], [SV.gd 0 true (SL 0 [])]]))) ∧ (Inv l3)))))) ((Sm (some ([[S nm, I ro, I mo, I wd, I sl, SL 2 cl, I h0, I h1, I h2, I h3, I h4, I h5, I h6, I h7, I h8, I hs, I rm, I ha, I c0, I c1, I c2], [SV.gd 0 true (SL 0 [])]]))) ∧ (Inv l1))) ∧ (∀ l2, (Inv l2) → ifB (bpick (ieq ro 1) true (ieq ro 3)) (Cl Tryz.prog 134 sP ([SL 1 l2, SL 1 ([[I h0], [I h1], [I h2], [I h3], [I h4], [I h5], [I h6], [I h7], [I h8]])]) (fun rs2 => ∃ l3, (rs2 = [SL 1 l3]) ∧ (Cl Tryz.prog 134 sP ([SL 1 l3, SL 1 ([[I hs]])]) (fun rs3 => ∃ l4, (rs3 = [SL 1 l4]) ∧ (ifB (bpick (ieq ro 2) true (ieq ro 3)) (Cl Tryz.prog 134 sP ([SL 1 l4, SL 1 ([[I rm], [I ha]])]) (fun rs4 => ∃ l5, (rs4 = [SL 1 l5]) ∧ (Cl Tryz.prog 134 sP ([SL 1 l5, SL 1 ([[I c0], [I c1], [I c2]])]) (fun rs5 => ∃ l6, (rs5 = [SL 1 l6]) ∧ (Q [SL 1 l6]))))) (Cl Tryz.prog 134 sP ([SL 1 l4, SL 1 ([[I c0], [I c1], [I c2]])]) (fun rs4 => ∃ l5, (rs4 = [SL 1 l5]) ∧ (Q [SL 1 l5])))))))) (ifB (bpick (ieq ro 2) true (ieq ro 3)) (Cl Tryz.prog 134 sP ([SL 1 l2, SL 1 ([[I rm], [I ha]])]) (fun rs2 => ∃ l3, (rs2 = [SL 1 l3]) ∧ (Cl Tryz.prog 134 sP ([SL 1 l3, SL 1 ([[I c0], [I c1], [I c2]])]) (fun rs3 => ∃ l4, (rs3 = [SL 1 l4]) ∧ (Q [SL 1 l4]))))) (Cl Tryz.prog 134 sP ([SL 1 l2, SL 1 ([[I c0], [I c1], [I c2]])]) (fun rs2 => ∃ l3, (rs2 = [SL 1 l3]) ∧ (Q [SL 1 l3])))))))))) : Ct Tryz.prog 135 {} [SL 1 rows, cmp21 nm ro mo wd sl cl h0 h1 h2 h3 h4 h5 h6 h7 h8 hs rm ha c0 c1 c2] Q :=
 fn_of (f := 135) SgT SvT (fun k => bif Nat.beq k 3000001 then some ({} : LoopSpec) else bif Nat.beq k 39 then some { slots := [(0,false,[.sl 1]),(38,false,[.int .i64])], fixed := [384, 4] } else bif Nat.beq k 4000020 then some { slots := [(0,false,[.sl 1])], fixed := [384, 4] } else none) Tryz.f135 Tryz.func135 (by kernel_rfl) (by kernel_rfl) h

theorem renc_nf (rows : LL) (q t : Int) (Q : List SV → Prop) (h : Cl Tryz.prog 43 sP ([SV.agg [SL 21 rows, I q, I t]]) (fun rs => ∃ b, (rs = [B b]) ∧ (ifB (bnot b) (Q ([SL 1 [], I 1])) (Cl Tryz.prog 134 sP ([SL 1 [], SL 1 ([[I (rlen rows)]])]) (fun rs1 => ∃ l, (rs1 = [SL 1 l]) ∧ (∃ Inv : (LL) → Int → Prop, ∃ m : (LL) → Int → Nat, (Inv l 0) ∧ (∀ l1 x, (Inv l1 x) → ifB (ilt x (rlen rows)) ((((0 : Int) ≤ x) ∧ (x < (rlen rows))) ∧ (∃ s x1, ∃ x2 x3, ∃ x4 l2, ∃ x5 x6, ∃ x7 x8, ∃ x9 x10, ∃ x11 x12, ∃ x13 x14, ∃ x15 x16, ∃ x17 x18 x19, (rget rows x = [S s, I x1, I x2, I x3, I x4, SL 2 l2, I x5, I x6, I x7, I x8, I x9, I x10, I x11, I x12, I x13, I x14, I x15, I x16, I x17, I x18, I x19]) ∧ (Cl Tryz.prog 135 sP ([SL 1 l1, SV.agg [S s, I x1, I x2, I x3, I x4, SL 2 l2, I x5, I x6, I x7, I x8, I x9, I x10, I x11, I x12, I x13, I x14, I x15, I x16, I x17, I x18, I x19]]) (fun rs2 => ∃ l3, (rs2 = [SL 1 l3]) ∧ ((Sm (some ([[SL 21 rows, I q, I t]]))) ∧ ((Inv l3 (wadd .i64 x 1)) ∧ (Nat.le (Nat.succ (m l3 (wadd .i64 x 1))) (m l1 x)))))))) (Cl Tryz.prog 134 sP ([SL 1 l1, SL 1 ([[I q], [I t]])]) (fun rs2 => ∃ l2, (rs2 = [SL 1 l2]) ∧ (Q [SL 1 l2, I 0])))))))))) : Ct Tryz.prog 70 {} [st3 rows q t] Q :=
 fn_of (f := 70) SgT SvT (fun k => bif Nat.beq k 19 then some { slots := [(4,false,[.sl 1]),(18,false,[.int .i64])], fixed := [128] } else none) Tryz.f70 Tryz.func70 (by kernel_rfl) (by kernel_rfl) h

theorem rrenc_nf (rows : LL) (q t : Int) (Q : List SV → Prop) (h : Cl Tryz.prog 54 sO ([SL 1 [], U64 (wcv .u64 (rlen rows))]) (fun rs => ∃ l, (rs = [SL 1 l]) ∧ (∃ Inv : (LL) → Int → Prop, ∃ m : (LL) → Int → Nat, (Inv l 0) ∧ (∀ l1 x, (Inv l1 x) → ifB (ilt x (rlen rows)) ((((0 : Int) ≤ x) ∧ (x < (rlen rows))) ∧ (∃ s x1, ∃ x2 x3, ∃ x4 l2, ∃ x5 x6, ∃ x7 x8, ∃ x9 x10, ∃ x11 x12, ∃ x13 x14, ∃ x15 x16, ∃ x17 x18 x19, (rget rows x = [S s, I x1, I x2, I x3, I x4, SL 2 l2, I x5, I x6, I x7, I x8, I x9, I x10, I x11, I x12, I x13, I x14, I x15, I x16, I x17, I x18, I x19]) ∧ (Cl Tryz.prog 118 sO [SL 1 l1, S s] (fun rs1 => ∃ l3, (rs1 = [SL 1 l3]) ∧ ((((0 : Int) ≤ x) ∧ (x < (rlen rows))) ∧ (∃ s1 x20, ∃ x21 x22, ∃ x23 l4, ∃ x24 x25, ∃ x26 x27, ∃ x28 x29, ∃ x30 x31, ∃ x32 x33, ∃ x34 x35, ∃ x36 x37 x38, (rget rows x = [S s1, I x20, I x21, I x22, I x23, SL 2 l4, I x24, I x25, I x26, I x27, I x28, I x29, I x30, I x31, I x32, I x33, I x34, I x35, I x36, I x37, I x38]) ∧ (Cl Tryz.prog 144 sP ([SV.agg [S s1, I x20, I x21, I x22, I x23, SL 2 l4, I x24, I x25, I x26, I x27, I x28, I x29, I x30, I x31, I x32, I x33, I x34, I x35, I x36, I x37, I x38]]) (fun rs2 => ∃ l5, (rs2 = [SL 1 l5]) ∧ (∃ Inv1 : (LL) → Int → Prop, ∃ m1 : (LL) → Int → Nat, (Inv1 l3 0) ∧ (∀ l6 x39, (Inv1 l6 x39) → ifB (ilt x39 (rlen l5)) ((((0 : Int) ≤ x39) ∧ (x39 < (rlen l5))) ∧ (∃ x40, (rget l5 x39 = [I x40]) ∧ (Cl Tryz.prog 54 sO [SL 1 l6, U64 (wcv .u64 x40)] (fun rs3 => ∃ l7, (rs3 = [SL 1 l7]) ∧ ((Sm (some ([[SL 21 rows, I q, I t]]))) ∧ ((Inv1 l7 (wadd .i64 x39 1)) ∧ (Nat.le (Nat.succ (m1 l7 (wadd .i64 x39 1))) (m1 l6 x39)))))))) ((Sm (some ([[SL 21 rows, I q, I t]]))) ∧ ((Inv l6 (wadd .i64 x 1)) ∧ (Nat.le (Nat.succ (m l6 (wadd .i64 x 1))) (m l1 x)))))))))))))) (Cl Tryz.prog 54 sO [SL 1 l1, U64 (wcv .u64 q)] (fun rs1 => ∃ l2, (rs1 = [SL 1 l2]) ∧ (Cl Tryz.prog 54 sO [SL 1 l2, U64 (wcv .u64 t)] (fun rs2 => ∃ l3, (rs2 = [SL 1 l3]) ∧ (Q [SL 1 l3]))))))))) : Ct Tryz.prog 75 {} [st3 rows q t] Q :=
 fn_of (f := 75) SgT SvT (fun k => bif Nat.beq k 12 then some { slots := [(3,false,[.sl 1]),(4,false,[.int .i64])], fixed := [128] } else bif Nat.beq k 33 then some { slots := [(3,false,[.sl 1]),(6,false,[.int .i64])], fixed := [128] } else none) Tryz.f75 Tryz.func75 (by kernel_rfl) (by kernel_rfl) h

theorem rnums_nf (nm : ByteArray) (ro mo wd sl : Int) (cl : LL) (h0 h1 h2 h3 h4 h5 h6 h7 h8 hs rm ha c0 c1 c2 : Int) (Q : List SV → Prop) (h : ∃ Inv : (LL) → Prop, ∃ m : (LL) → Nat, (ifB (ieq ro 1) (((lsum (rlen ([[I ro], [I mo]])) (rlen ([[I wd], [I sl], [I (rlen cl)]]))) ≤ ((2147483648 : Int))) ∧ (∃ Inv1 : (LL) → Int → Prop, ∃ m1 : (LL) → Int → Nat, (Inv1 (rapp ([[I ro], [I mo]]) ([[I wd], [I sl], [I (rlen cl)]])) 0) ∧ (∀ l x, (Inv1 l x) → ifB (ilt x (rlen cl)) ((((0 : Int) ≤ x) ∧ (x < (rlen cl))) ∧ (∃ x1 x2, (rget cl x = [I x1, I x2]) ∧ ((((0 : Int) ≤ x) ∧ (x < (rlen cl))) ∧ (∃ x3 x4, (rget cl x = [I x3, I x4]) ∧ (((lsum (rlen l) (rlen ([[I x1], [I x4]]))) ≤ ((2147483648 : Int))) ∧ ((Sm (some ([[S nm, I ro, I mo, I wd, I sl, SL 2 cl, I h0, I h1, I h2, I h3, I h4, I h5, I h6, I h7, I h8, I hs, I rm, I ha, I c0, I c1, I c2]]))) ∧ ((Inv1 (rapp l ([[I x1], [I x4]])) (wadd .i64 x 1)) ∧ (Nat.le (Nat.succ (m1 (rapp l ([[I x1], [I x4]])) (wadd .i64 x 1))) (m1 l x))))))))) ((Sm (some ([[S nm, I ro, I mo, I wd, I sl, SL 2 cl, I h0, I h1, I h2, I h3, I h4, I h5, I h6, I h7, I h8, I hs, I rm, I ha, I c0, I c1, I c2]]))) ∧ (Inv l))))) ((Sm (some ([[S nm, I ro, I mo, I wd, I sl, SL 2 cl, I h0, I h1, I h2, I h3, I h4, I h5, I h6, I h7, I h8, I hs, I rm, I ha, I c0, I c1, I c2]]))) ∧ (Inv ([[I ro], [I mo]])))) ∧ (∀ l, (Inv l) → ∃ Inv1 : (LL) → Prop, ∃ m1 : (LL) → Nat, (ifB (bpick (ieq ro 1) true (ieq ro 3)) (∃ Inv2 : (LL) → Int → Prop, ∃ m2 : (LL) → Int → Nat, (Inv2 l 0) ∧ (∀ l1 x, (Inv2 l1 x) → ifB (ilt x 9) ((((0 : Int) ≤ x) ∧ (x < ((9 : Int)))) ∧ (((x = (0 : Int)) → ((lsum (rlen l1) (rlen ([[I h0]]))) ≤ ((2147483648 : Int))) ∧ ((Sm (some ([[S nm, I ro, I mo, I wd, I sl, SL 2 cl, I h0, I h1, I h2, I h3, I h4, I h5, I h6, I h7, I h8, I hs, I rm, I ha, I c0, I c1, I c2]]))) ∧ ((Inv2 (rapp l1 ([[I h0]])) (wadd .i64 x 1)) ∧ (Nat.le (Nat.succ (m2 (rapp l1 ([[I h0]])) (wadd .i64 x 1))) (m2 l1 x))))) ∧ (((x = (1 : Int)) → ((lsum (rlen l1) (rlen ([[I h1]]))) ≤ ((2147483648 : Int))) ∧ ((Sm (some ([[S nm, I ro, I mo, I wd, I sl, SL 2 cl, I h0, I h1, I h2, I h3, I h4, I h5, I h6, I h7, I h8, I hs, I rm, I ha, I c0, I c1, I c2]]))) ∧ ((Inv2 (rapp l1 ([[I h1]])) (wadd .i64 x 1)) ∧ (Nat.le (Nat.succ (m2 (rapp l1 ([[I h1]])) (wadd .i64 x 1))) (m2 l1 x))))) ∧ (((x = (2 : Int)) → ((lsum (rlen l1) (rlen ([[I h2]]))) ≤ ((2147483648 : Int))) ∧ ((Sm (some ([[S nm, I ro, I mo, I wd, I sl, SL 2 cl, I h0, I h1, I h2, I h3, I h4, I h5, I h6, I h7, I h8, I hs, I rm, I ha, I c0, I c1, I c2]]))) ∧ ((Inv2 (rapp l1 ([[I h2]])) (wadd .i64 x 1)) ∧ (Nat.le (Nat.succ (m2 (rapp l1 ([[I h2]])) (wadd .i64 x 1))) (m2 l1 x))))) ∧ (((x = (3 : Int)) → ((lsum (rlen l1) (rlen ([[I h3]]))) ≤ ((2147483648 : Int))) ∧ ((Sm (some ([[S nm, I ro, I mo, I wd, I sl, SL 2 cl, I h0, I h1, I h2, I h3, I h4, I h5, I h6, I h7, I h8, I hs, I rm, I ha, I c0, I c1, I c2]]))) ∧ ((Inv2 (rapp l1 ([[I h3]])) (wadd .i64 x 1)) ∧ (Nat.le (Nat.succ (m2 (rapp l1 ([[I h3]])) (wadd .i64 x 1))) (m2 l1 x))))) ∧ (((x = (4 : Int)) → ((lsum (rlen l1) (rlen ([[I h4]]))) ≤ ((2147483648 : Int))) ∧ ((Sm (some ([[S nm, I ro, I mo, I wd, I sl, SL 2 cl, I h0, I h1, I h2, I h3, I h4, I h5, I h6, I h7, I h8, I hs, I rm, I ha, I c0, I c1, I c2]]))) ∧ ((Inv2 (rapp l1 ([[I h4]])) (wadd .i64 x 1)) ∧ (Nat.le (Nat.succ (m2 (rapp l1 ([[I h4]])) (wadd .i64 x 1))) (m2 l1 x))))) ∧ (((x = (5 : Int)) → ((lsum (rlen l1) (rlen ([[I h5]]))) ≤ ((2147483648 : Int))) ∧ ((Sm (some ([[S nm, I ro, I mo, I wd, I sl, SL 2 cl, I h0, I h1, I h2, I h3, I h4, I h5, I h6, I h7, I h8, I hs, I rm, I ha, I c0, I c1, I c2]]))) ∧ ((Inv2 (rapp l1 ([[I h5]])) (wadd .i64 x 1)) ∧ (Nat.le (Nat.succ (m2 (rapp l1 ([[I h5]])) (wadd .i64 x 1))) (m2 l1 x))))) ∧ (((x = (6 : Int)) → ((lsum (rlen l1) (rlen ([[I h6]]))) ≤ ((2147483648 : Int))) ∧ ((Sm (some ([[S nm, I ro, I mo, I wd, I sl, SL 2 cl, I h0, I h1, I h2, I h3, I h4, I h5, I h6, I h7, I h8, I hs, I rm, I ha, I c0, I c1, I c2]]))) ∧ ((Inv2 (rapp l1 ([[I h6]])) (wadd .i64 x 1)) ∧ (Nat.le (Nat.succ (m2 (rapp l1 ([[I h6]])) (wadd .i64 x 1))) (m2 l1 x))))) ∧ (((x = (7 : Int)) → ((lsum (rlen l1) (rlen ([[I h7]]))) ≤ ((2147483648 : Int))) ∧ ((Sm (some ([[S nm, I ro, I mo, I wd, I sl, SL 2 cl, I h0, I h1, I h2, I h3, I h4, I h5, I h6, I h7, I h8, I hs, I rm, I ha, I c0, I c1, I c2]]))) ∧ ((Inv2 (rapp l1 ([[I h7]])) (wadd .i64 x 1)) ∧ (Nat.le (Nat.succ (m2 (rapp l1 ([[I h7]])) (wadd .i64 x 1))) (m2 l1 x))))) ∧ (((x = (8 : Int)) → ((lsum (rlen l1) (rlen ([[I h8]]))) ≤ ((2147483648 : Int))) ∧ ((Sm (some ([[S nm, I ro, I mo, I wd, I sl, SL 2 cl, I h0, I h1, I h2, I h3, I h4, I h5, I h6, I h7, I h8, I hs, I rm, I ha, I c0, I c1, I c2]]))) ∧ ((Inv2 (rapp l1 ([[I h8]])) (wadd .i64 x 1)) ∧ (Nat.le (Nat.succ (m2 (rapp l1 ([[I h8]])) (wadd .i64 x 1))) (m2 l1 x))))) ∧ True)))))))))) (((lsum (rlen l1) (rlen ([[I hs]]))) ≤ ((2147483648 : Int))) ∧ ((Sm (some ([[S nm, I ro, I mo, I wd, I sl, SL 2 cl, I h0, I h1, I h2, I h3, I h4, I h5, I h6, I h7, I h8, I hs, I rm, I ha, I c0, I c1, I c2]]))) ∧ (Inv1 (rapp l1 ([[I hs]]))))))) ((Sm (some ([[S nm, I ro, I mo, I wd, I sl, SL 2 cl, I h0, I h1, I h2, I h3, I h4, I h5, I h6, I h7, I h8, I hs, I rm, I ha, I c0, I c1, I c2]]))) ∧ (Inv1 l))) ∧ (∀ l1, (Inv1 l1) → ∃ Inv2 : (LL) → Prop, ∃ m2 : (LL) → Nat, (ifB (bpick (ieq ro 2) true (ieq ro 3)) (((lsum (rlen l1) (rlen ([[I rm], [I ha]]))) ≤ ((2147483648 : Int))) ∧ ((Sm (some ([[S nm, I ro, I mo, I wd, I sl, SL 2 cl, I h0, I h1, I h2, I h3, I h4, I h5, I h6, I h7, I h8, I hs, I rm, I ha, I c0, I c1, I c2]]))) ∧ (Inv2 (rapp l1 ([[I rm], [I ha]]))))) ((Sm (some ([[S nm, I ro, I mo, I wd, I sl, SL 2 cl, I h0, I h1, I h2, I h3, I h4, I h5, I h6, I h7, I h8, I hs, I rm, I ha, I c0, I c1, I c2]]))) ∧ (Inv2 l1))) ∧ (∀ l2, (Inv2 l2) → ((lsum (rlen l2) (rlen ([[I c0], [I c1], [I c2]]))) ≤ ((2147483648 : Int))) ∧ (Q ([SL 1 (rapp l2 ([[I c0], [I c1], [I c2]]))])))))) : Ct Tryz.prog 144 {} [cmp21 nm ro mo wd sl cl h0 h1 h2 h3 h4 h5 h6 h7 h8 hs rm ha c0 c1 c2] Q :=
 fn_of (f := 144) SgT SvT (fun k => bif Nat.beq k 27 then some { slots := [(3,false,[.own 1]),(4,false,[.int .i64])], fixed := [128] } else bif Nat.beq k 60 then some { slots := [(3,false,[.own 1]),(5,false,[.int .i64])], fixed := [128] } else bif Nat.beq k 4000013 then some { slots := [(3,false,[.own 1])], fixed := [128] } else bif Nat.beq k 4000059 then some { slots := [(3,false,[.own 1])], fixed := [128] } else bif Nat.beq k 4000085 then some { slots := [(3,false,[.own 1])], fixed := [128] } else none) Tryz.f144 Tryz.func144 (by kernel_rfl) (by kernel_rfl) h

theorem rnum_nf (bs : LL) (at_ er : Int) (bad : Bool) (Q : List SV → Prop) (h : Cl Tryz.prog 197 sP ([SV.agg [SL 1 bs, I at_, I er]]) (fun rs => ∃ l x, ∃ x1 x2, (rs = [SV.agg [SL 1 l, I x, I x1], U64 x2]) ∧ (ifB (bpick (ine x1 0) true (igt x2 9223372036854775807)) (Q ([I 0, SV.agg [SL 1 l, I x, I x1, B true]])) (Q ([I (wcv .i64 x2), SV.agg [SL 1 l, I x, I x1, B bad]]))))) : Ct Tryz.prog 147 ⟨[.lend [false,false,false,false]], []⟩ [rd4 bs at_ er bad] Q :=
 fn_of (f := 147) SgT SvT (fun _ => none) Tryz.f147 Tryz.func147 (by kernel_rfl) (by kernel_rfl) h

theorem rtxt_nf (bs : LL) (at_ er : Int) (bad : Bool) (Q : List SV → Prop) (h : Cl Tryz.prog 231 sP ([SV.agg [SL 1 bs, I at_, I er], I 24]) (fun rs => ∃ l x, ∃ x1 s, (rs = [SV.agg [SL 1 l, I x, I x1], S s]) ∧ (ifB (ine x1 0) (Q ([S (ByteArray.mk (Array.mk [])), SV.agg [SL 1 l, I x, I x1, B true]])) (Q ([S s, SV.agg [SL 1 l, I x, I x1, B bad]]))))) : Ct Tryz.prog 205 ⟨[.lend [false,false,false,false]], []⟩ [rd4 bs at_ er bad] Q :=
 fn_of (f := 205) SgT SvT (fun _ => none) Tryz.f205 Tryz.func205 (by kernel_rfl) (by kernel_rfl) h

theorem rwin_nf (bs : LL) (at_ er : Int) (bad : Bool) (Q : List SV → Prop) (h : Cl Tryz.prog 147 (Sig.mk ([Md.lend [false, false, false, false]]) []) ([SV.agg [SL 1 bs, I at_, I er, B bad]]) (fun rs => ∃ x l, ∃ x1 x2 b, (rs = [I x, SV.agg [SL 1 l, I x1, I x2, B b]]) ∧ (Cl Tryz.prog 147 (Sig.mk ([Md.lend [false, false, false, false]]) []) ([SV.agg [SL 1 l, I x1, I x2, B b]]) (fun rs1 => ∃ x3 l1, ∃ x4 x5 b1, (rs1 = [I x3, SV.agg [SL 1 l1, I x4, I x5, B b1]]) ∧ (Cl Tryz.prog 147 (Sig.mk ([Md.lend [false, false, false, false]]) []) ([SV.agg [SL 1 l1, I x4, I x5, B b1]]) (fun rs2 => ∃ x6 l2, ∃ x7 x8 b2, (rs2 = [I x6, SV.agg [SL 1 l2, I x7, I x8, B b2]]) ∧ (ifB (igt x6 16) (Q ([SV.agg ([I x, I x3, SL 2 []]), SV.agg [SL 1 l2, I x7, I x8, B true]])) (∃ Inv : Int → (LL) → Int → Int → Bool → Int → Int → (LL) → Prop, ∃ m : Int → (LL) → Int → Int → Bool → Int → Int → (LL) → Nat, (Inv 0 l2 x7 x8 b2 x x3 []) ∧ (∀ x9 l3, ∀ x10 x11, ∀ b3 x12, ∀ x13 l4, (Inv x9 l3 x10 x11 b3 x12 x13 l4) → ifB (ilt x9 x6) (Cl Tryz.prog 147 (Sig.mk ([Md.lend [false, false, false, false]]) []) ([SV.agg [SL 1 l3, I x10, I x11, B b3]]) (fun rs3 => ∃ x14 l5, ∃ x15 x16 b4, (rs3 = [I x14, SV.agg [SL 1 l5, I x15, I x16, B b4]]) ∧ (Cl Tryz.prog 147 (Sig.mk ([Md.lend [false, false, false, false]]) []) ([SV.agg [SL 1 l5, I x15, I x16, B b4]]) (fun rs4 => ∃ x17 l6, ∃ x18 x19 b5, (rs4 = [I x17, SV.agg [SL 1 l6, I x18, I x19, B b5]]) ∧ (((lsum (rlen l4) (rlen ([[I x14, I x17]]))) ≤ ((2147483648 : Int))) ∧ ((Sm (some ([[I ((0 : Int)), I ((0 : Int)), SV.slice 2 [] 1]]))) ∧ ((Inv (wadd .i64 x9 1) l6 x18 x19 b5 x12 x13 (rapp l4 ([[I x14, I x17]]))) ∧ (Nat.le (Nat.succ (m (wadd .i64 x9 1) l6 x18 x19 b5 x12 x13 (rapp l4 ([[I x14, I x17]])))) (m x9 l3 x10 x11 b3 x12 x13 l4))))))))) (Q ([SV.agg [I x12, I x13, SL 2 l4], SV.agg [SL 1 l3, I x10, I x11, B b3]]))))))))))) : Ct Tryz.prog 206 ⟨[.lend [false,false,false,false]], []⟩ [rd4 bs at_ er bad] Q :=
 fn_of (f := 206) SgT SvT (fun k => bif Nat.beq k 23 then some { slots := [(22,false,[.int .i64])], boxes := [(1048576,[.sl 1,.int .i64,.int .i64,.bool]),(384,[.int .i64,.int .i64,.own 2])], fixed := [256] } else none) Tryz.f206 Tryz.func206 (by kernel_rfl) (by kernel_rfl) h

theorem rcomp_nf (bs : LL) (at_ er : Int) (bad : Bool) (Q : List SV → Prop) (h : Cl Tryz.prog 205 (Sig.mk ([Md.lend [false, false, false, false]]) []) ([SV.agg [SL 1 bs, I at_, I er, B bad]]) (fun rs => ∃ s l, ∃ x x1 b, (rs = [S s, SV.agg [SL 1 l, I x, I x1, B b]]) ∧ (Cl Tryz.prog 147 (Sig.mk ([Md.lend [false, false, false, false]]) []) ([SV.agg [SL 1 l, I x, I x1, B b]]) (fun rs1 => ∃ x2 l1, ∃ x3 x4 b1, (rs1 = [I x2, SV.agg [SL 1 l1, I x3, I x4, B b1]]) ∧ (ifB (bpick (ilt x2 1) true (igt x2 3)) (Q ([SV.agg ([S s, I ((0 : Int)), I ((0 : Int)), I ((0 : Int)), I ((0 : Int)), SL 2 [], I ((0 : Int)), I ((0 : Int)), I ((0 : Int)), I ((0 : Int)), I ((0 : Int)), I ((0 : Int)), I ((0 : Int)), I ((0 : Int)), I ((0 : Int)), I ((0 : Int)), I ((0 : Int)), I ((0 : Int)), I ((0 : Int)), I ((0 : Int)), I ((0 : Int))]), SV.agg [SL 1 l1, I x3, I x4, B true]])) (Cl Tryz.prog 147 (Sig.mk ([Md.lend [false, false, false, false]]) []) ([SV.agg [SL 1 l1, I x3, I x4, B b1]]) (fun rs2 => ∃ x5 l2, ∃ x6 x7 b2, (rs2 = [I x5, SV.agg [SL 1 l2, I x6, I x7, B b2]]) ∧ (∃ Inv : (LL) → Int → Int → Bool → ByteArray → Int → Int → Int → Int → (LL) → Int → Int → Int → Int → Int → Int → Int → Int → Int → Int → Int → Int → Int → Int → Int → Prop, ∃ m : (LL) → Int → Int → Bool → ByteArray → Int → Int → Int → Int → (LL) → Int → Int → Int → Int → Int → Int → Int → Int → Int → Int → Int → Int → Int → Int → Int → Nat, (ifB (ieq x2 1) (Cl Tryz.prog 206 (Sig.mk ([Md.lend [false, false, false, false]]) []) ([SV.agg [SL 1 l2, I x6, I x7, B b2]]) (fun rs3 => ∃ x8 x9, ∃ l3 l4, ∃ x10 x11 b3, (rs3 = [SV.agg [I x8, I x9, SL 2 l3], SV.agg [SL 1 l4, I x10, I x11, B b3]]) ∧ ((Sm (some ([[S (ByteArray.mk (Array.mk [])), I ((0 : Int)), I ((0 : Int)), I ((0 : Int)), I ((0 : Int)), SV.slice 2 [] 1, I ((0 : Int)), I ((0 : Int)), I ((0 : Int)), I ((0 : Int)), I ((0 : Int)), I ((0 : Int)), I ((0 : Int)), I ((0 : Int)), I ((0 : Int)), I ((0 : Int)), I ((0 : Int)), I ((0 : Int)), I ((0 : Int)), I ((0 : Int)), I ((0 : Int))]]))) ∧ (Inv l4 x10 x11 b3 s x2 x5 x8 x9 l3 ((0 : Int)) ((0 : Int)) ((0 : Int)) ((0 : Int)) ((0 : Int)) ((0 : Int)) ((0 : Int)) ((0 : Int)) ((0 : Int)) ((0 : Int)) ((0 : Int)) ((0 : Int)) ((0 : Int)) ((0 : Int)) ((0 : Int)))))) ((Sm (some ([[S (ByteArray.mk (Array.mk [])), I ((0 : Int)), I ((0 : Int)), I ((0 : Int)), I ((0 : Int)), SV.slice 2 [] 1, I ((0 : Int)), I ((0 : Int)), I ((0 : Int)), I ((0 : Int)), I ((0 : Int)), I ((0 : Int)), I ((0 : Int)), I ((0 : Int)), I ((0 : Int)), I ((0 : Int)), I ((0 : Int)), I ((0 : Int)), I ((0 : Int)), I ((0 : Int)), I ((0 : Int))]]))) ∧ (Inv l2 x6 x7 b2 s x2 x5 ((0 : Int)) ((0 : Int)) [] ((0 : Int)) ((0 : Int)) ((0 : Int)) ((0 : Int)) ((0 : Int)) ((0 : Int)) ((0 : Int)) ((0 : Int)) ((0 : Int)) ((0 : Int)) ((0 : Int)) ((0 : Int)) ((0 : Int)) ((0 : Int)) ((0 : Int))))) ∧ (∀ l3 x8, ∀ x9 b3, ∀ s1 x10, ∀ x11 x12, ∀ x13 l4, ∀ x14 x15, ∀ x16 x17, ∀ x18 x19, ∀ x20 x21, ∀ x22 x23, ∀ x24 x25, ∀ x26 x27 x28, (Inv l3 x8 x9 b3 s1 x10 x11 x12 x13 l4 x14 x15 x16 x17 x18 x19 x20 x21 x22 x23 x24 x25 x26 x27 x28) → ∃ Inv1 : (LL) → Int → Int → Bool → ByteArray → Int → Int → Int → Int → (LL) → Int → Int → Int → Int → Int → Int → Int → Int → Int → Int → Int → Int → Int → Int → Int → Prop, ∃ m1 : (LL) → Int → Int → Bool → ByteArray → Int → Int → Int → Int → (LL) → Int → Int → Int → Int → Int → Int → Int → Int → Int → Int → Int → Int → Int → Int → Int → Nat, (ifB (bpick (ieq x10 1) true (ieq x10 3)) (∃ Inv2 : Int → (LL) → Int → Int → Bool → ByteArray → Int → Int → Int → Int → (LL) → Int → Int → Int → Int → Int → Int → Int → Int → Int → Int → Int → Int → Int → Int → Int → Prop, ∃ m2 : Int → (LL) → Int → Int → Bool → ByteArray → Int → Int → Int → Int → (LL) → Int → Int → Int → Int → Int → Int → Int → Int → Int → Int → Int → Int → Int → Int → Int → Nat, (Inv2 0 l3 x8 x9 b3 s1 x10 x11 x12 x13 l4 x14 x15 x16 x17 x18 x19 x20 x21 x22 x23 x24 x25 x26 x27 x28) ∧ (∀ x29 l5, ∀ x30 x31, ∀ b4 s2, ∀ x32 x33, ∀ x34 x35, ∀ l6 x36, ∀ x37 x38, ∀ x39 x40, ∀ x41 x42, ∀ x43 x44, ∀ x45 x46, ∀ x47 x48, ∀ x49 x50, (Inv2 x29 l5 x30 x31 b4 s2 x32 x33 x34 x35 l6 x36 x37 x38 x39 x40 x41 x42 x43 x44 x45 x46 x47 x48 x49 x50) → ifB (ilt x29 9) (Cl Tryz.prog 147 (Sig.mk ([Md.lend [false, false, false, false]]) []) ([SV.agg [SL 1 l5, I x30, I x31, B b4]]) (fun rs3 => ∃ x51 l7, ∃ x52 x53 b5, (rs3 = [I x51, SV.agg [SL 1 l7, I x52, I x53, B b5]]) ∧ ((((0 : Int) ≤ x29) ∧ (x29 < ((9 : Int)))) ∧ (((x29 = (0 : Int)) → (Sm (some ([[S (ByteArray.mk (Array.mk [])), I ((0 : Int)), I ((0 : Int)), I ((0 : Int)), I ((0 : Int)), SV.slice 2 [] 1, I ((0 : Int)), I ((0 : Int)), I ((0 : Int)), I ((0 : Int)), I ((0 : Int)), I ((0 : Int)), I ((0 : Int)), I ((0 : Int)), I ((0 : Int)), I ((0 : Int)), I ((0 : Int)), I ((0 : Int)), I ((0 : Int)), I ((0 : Int)), I ((0 : Int))]]))) ∧ ((Inv2 (wadd .i64 x29 1) l7 x52 x53 b5 s2 x32 x33 x34 x35 l6 x51 x37 x38 x39 x40 x41 x42 x43 x44 x45 x46 x47 x48 x49 x50) ∧ (Nat.le (Nat.succ (m2 (wadd .i64 x29 1) l7 x52 x53 b5 s2 x32 x33 x34 x35 l6 x51 x37 x38 x39 x40 x41 x42 x43 x44 x45 x46 x47 x48 x49 x50)) (m2 x29 l5 x30 x31 b4 s2 x32 x33 x34 x35 l6 x36 x37 x38 x39 x40 x41 x42 x43 x44 x45 x46 x47 x48 x49 x50)))) ∧ (((x29 = (1 : Int)) → (Sm (some ([[S (ByteArray.mk (Array.mk [])), I ((0 : Int)), I ((0 : Int)), I ((0 : Int)), I ((0 : Int)), SV.slice 2 [] 1, I ((0 : Int)), I ((0 : Int)), I ((0 : Int)), I ((0 : Int)), I ((0 : Int)), I ((0 : Int)), I ((0 : Int)), I ((0 : Int)), I ((0 : Int)), I ((0 : Int)), I ((0 : Int)), I ((0 : Int)), I ((0 : Int)), I ((0 : Int)), I ((0 : Int))]]))) ∧ ((Inv2 (wadd .i64 x29 1) l7 x52 x53 b5 s2 x32 x33 x34 x35 l6 x36 x51 x38 x39 x40 x41 x42 x43 x44 x45 x46 x47 x48 x49 x50) ∧ (Nat.le (Nat.succ (m2 (wadd .i64 x29 1) l7 x52 x53 b5 s2 x32 x33 x34 x35 l6 x36 x51 x38 x39 x40 x41 x42 x43 x44 x45 x46 x47 x48 x49 x50)) (m2 x29 l5 x30 x31 b4 s2 x32 x33 x34 x35 l6 x36 x37 x38 x39 x40 x41 x42 x43 x44 x45 x46 x47 x48 x49 x50)))) ∧ (((x29 = (2 : Int)) → (Sm (some ([[S (ByteArray.mk (Array.mk [])), I ((0 : Int)), I ((0 : Int)), I ((0 : Int)), I ((0 : Int)), SV.slice 2 [] 1, I ((0 : Int)), I ((0 : Int)), I ((0 : Int)), I ((0 : Int)), I ((0 : Int)), I ((0 : Int)), I ((0 : Int)), I ((0 : Int)), I ((0 : Int)), I ((0 : Int)), I ((0 : Int)), I ((0 : Int)), I ((0 : Int)), I ((0 : Int)), I ((0 : Int))]]))) ∧ ((Inv2 (wadd .i64 x29 1) l7 x52 x53 b5 s2 x32 x33 x34 x35 l6 x36 x37 x51 x39 x40 x41 x42 x43 x44 x45 x46 x47 x48 x49 x50) ∧ (Nat.le (Nat.succ (m2 (wadd .i64 x29 1) l7 x52 x53 b5 s2 x32 x33 x34 x35 l6 x36 x37 x51 x39 x40 x41 x42 x43 x44 x45 x46 x47 x48 x49 x50)) (m2 x29 l5 x30 x31 b4 s2 x32 x33 x34 x35 l6 x36 x37 x38 x39 x40 x41 x42 x43 x44 x45 x46 x47 x48 x49 x50)))) ∧ (((x29 = (3 : Int)) → (Sm (some ([[S (ByteArray.mk (Array.mk [])), I ((0 : Int)), I ((0 : Int)), I ((0 : Int)), I ((0 : Int)), SV.slice 2 [] 1, I ((0 : Int)), I ((0 : Int)), I ((0 : Int)), I ((0 : Int)), I ((0 : Int)), I ((0 : Int)), I ((0 : Int)), I ((0 : Int)), I ((0 : Int)), I ((0 : Int)), I ((0 : Int)), I ((0 : Int)), I ((0 : Int)), I ((0 : Int)), I ((0 : Int))]]))) ∧ ((Inv2 (wadd .i64 x29 1) l7 x52 x53 b5 s2 x32 x33 x34 x35 l6 x36 x37 x38 x51 x40 x41 x42 x43 x44 x45 x46 x47 x48 x49 x50) ∧ (Nat.le (Nat.succ (m2 (wadd .i64 x29 1) l7 x52 x53 b5 s2 x32 x33 x34 x35 l6 x36 x37 x38 x51 x40 x41 x42 x43 x44 x45 x46 x47 x48 x49 x50)) (m2 x29 l5 x30 x31 b4 s2 x32 x33 x34 x35 l6 x36 x37 x38 x39 x40 x41 x42 x43 x44 x45 x46 x47 x48 x49 x50)))) ∧ (((x29 = (4 : Int)) → (Sm (some ([[S (ByteArray.mk (Array.mk [])), I ((0 : Int)), I ((0 : Int)), I ((0 : Int)), I ((0 : Int)), SV.slice 2 [] 1, I ((0 : Int)), I ((0 : Int)), I ((0 : Int)), I ((0 : Int)), I ((0 : Int)), I ((0 : Int)), I ((0 : Int)), I ((0 : Int)), I ((0 : Int)), I ((0 : Int)), I ((0 : Int)), I ((0 : Int)), I ((0 : Int)), I ((0 : Int)), I ((0 : Int))]]))) ∧ ((Inv2 (wadd .i64 x29 1) l7 x52 x53 b5 s2 x32 x33 x34 x35 l6 x36 x37 x38 x39 x51 x41 x42 x43 x44 x45 x46 x47 x48 x49 x50) ∧ (Nat.le (Nat.succ (m2 (wadd .i64 x29 1) l7 x52 x53 b5 s2 x32 x33 x34 x35 l6 x36 x37 x38 x39 x51 x41 x42 x43 x44 x45 x46 x47 x48 x49 x50)) (m2 x29 l5 x30 x31 b4 s2 x32 x33 x34 x35 l6 x36 x37 x38 x39 x40 x41 x42 x43 x44 x45 x46 x47 x48 x49 x50)))) ∧ (((x29 = (5 : Int)) → (Sm (some ([[S (ByteArray.mk (Array.mk [])), I ((0 : Int)), I ((0 : Int)), I ((0 : Int)), I ((0 : Int)), SV.slice 2 [] 1, I ((0 : Int)), I ((0 : Int)), I ((0 : Int)), I ((0 : Int)), I ((0 : Int)), I ((0 : Int)), I ((0 : Int)), I ((0 : Int)), I ((0 : Int)), I ((0 : Int)), I ((0 : Int)), I ((0 : Int)), I ((0 : Int)), I ((0 : Int)), I ((0 : Int))]]))) ∧ ((Inv2 (wadd .i64 x29 1) l7 x52 x53 b5 s2 x32 x33 x34 x35 l6 x36 x37 x38 x39 x40 x51 x42 x43 x44 x45 x46 x47 x48 x49 x50) ∧ (Nat.le (Nat.succ (m2 (wadd .i64 x29 1) l7 x52 x53 b5 s2 x32 x33 x34 x35 l6 x36 x37 x38 x39 x40 x51 x42 x43 x44 x45 x46 x47 x48 x49 x50)) (m2 x29 l5 x30 x31 b4 s2 x32 x33 x34 x35 l6 x36 x37 x38 x39 x40 x41 x42 x43 x44 x45 x46 x47 x48 x49 x50)))) ∧ (((x29 = (6 : Int)) → (Sm (some ([[S (ByteArray.mk (Array.mk [])), I ((0 : Int)), I ((0 : Int)), I ((0 : Int)), I ((0 : Int)), SV.slice 2 [] 1, I ((0 : Int)), I ((0 : Int)), I ((0 : Int)), I ((0 : Int)), I ((0 : Int)), I ((0 : Int)), I ((0 : Int)), I ((0 : Int)), I ((0 : Int)), I ((0 : Int)), I ((0 : Int)), I ((0 : Int)), I ((0 : Int)), I ((0 : Int)), I ((0 : Int))]]))) ∧ ((Inv2 (wadd .i64 x29 1) l7 x52 x53 b5 s2 x32 x33 x34 x35 l6 x36 x37 x38 x39 x40 x41 x51 x43 x44 x45 x46 x47 x48 x49 x50) ∧ (Nat.le (Nat.succ (m2 (wadd .i64 x29 1) l7 x52 x53 b5 s2 x32 x33 x34 x35 l6 x36 x37 x38 x39 x40 x41 x51 x43 x44 x45 x46 x47 x48 x49 x50)) (m2 x29 l5 x30 x31 b4 s2 x32 x33 x34 x35 l6 x36 x37 x38 x39 x40 x41 x42 x43 x44 x45 x46 x47 x48 x49 x50)))) ∧ (((x29 = (7 : Int)) → (Sm (some ([[S (ByteArray.mk (Array.mk [])), I ((0 : Int)), I ((0 : Int)), I ((0 : Int)), I ((0 : Int)), SV.slice 2 [] 1, I ((0 : Int)), I ((0 : Int)), I ((0 : Int)), I ((0 : Int)), I ((0 : Int)), I ((0 : Int)), I ((0 : Int)), I ((0 : Int)), I ((0 : Int)), I ((0 : Int)), I ((0 : Int)), I ((0 : Int)), I ((0 : Int)), I ((0 : Int)), I ((0 : Int))]]))) ∧ ((Inv2 (wadd .i64 x29 1) l7 x52 x53 b5 s2 x32 x33 x34 x35 l6 x36 x37 x38 x39 x40 x41 x42 x51 x44 x45 x46 x47 x48 x49 x50) ∧ (Nat.le (Nat.succ (m2 (wadd .i64 x29 1) l7 x52 x53 b5 s2 x32 x33 x34 x35 l6 x36 x37 x38 x39 x40 x41 x42 x51 x44 x45 x46 x47 x48 x49 x50)) (m2 x29 l5 x30 x31 b4 s2 x32 x33 x34 x35 l6 x36 x37 x38 x39 x40 x41 x42 x43 x44 x45 x46 x47 x48 x49 x50)))) ∧ (((x29 = (8 : Int)) → (Sm (some ([[S (ByteArray.mk (Array.mk [])), I ((0 : Int)), I ((0 : Int)), I ((0 : Int)), I ((0 : Int)), SV.slice 2 [] 1, I ((0 : Int)), I ((0 : Int)), I ((0 : Int)), I ((0 : Int)), I ((0 : Int)), I ((0 : Int)), I ((0 : Int)), I ((0 : Int)), I ((0 : Int)), I ((0 : Int)), I ((0 : Int)), I ((0 : Int)), I ((0 : Int)), I ((0 : Int)), I ((0 : Int))]]))) ∧ ((Inv2 (wadd .i64 x29 1) l7 x52 x53 b5 s2 x32 x33 x34 x35 l6 x36 x37 x38 x39 x40 x41 x42 x43 x51 x45 x46 x47 x48 x49 x50) ∧ (Nat.le (Nat.succ (m2 (wadd .i64 x29 1) l7 x52 x53 b5 s2 x32 x33 x34 x35 l6 x36 x37 x38 x39 x40 x41 x42 x43 x51 x45 x46 x47 x48 x49 x50)) (m2 x29 l5 x30 x31 b4 s2 x32 x33 x34 x35 l6 x36 x37 x38 x39 x40 x41 x42 x43 x44 x45 x46 x47 x48 x49 x50)))) ∧ True)))))))))))) (Cl Tryz.prog 147 (Sig.mk ([Md.lend [false, false, false, false]]) []) ([SV.agg [SL 1 l5, I x30, I x31, B b4]]) (fun rs3 => ∃ x51 l7, ∃ x52 x53 b5, (rs3 = [I x51, SV.agg [SL 1 l7, I x52, I x53, B b5]]) ∧ ((Sm (some ([[S (ByteArray.mk (Array.mk [])), I ((0 : Int)), I ((0 : Int)), I ((0 : Int)), I ((0 : Int)), SV.slice 2 [] 1, I ((0 : Int)), I ((0 : Int)), I ((0 : Int)), I ((0 : Int)), I ((0 : Int)), I ((0 : Int)), I ((0 : Int)), I ((0 : Int)), I ((0 : Int)), I ((0 : Int)), I ((0 : Int)), I ((0 : Int)), I ((0 : Int)), I ((0 : Int)), I ((0 : Int))]]))) ∧ (Inv1 l7 x52 x53 b5 s2 x32 x33 x34 x35 l6 x36 x37 x38 x39 x40 x41 x42 x43 x44 x51 x46 x47 x48 x49 x50)))))) ((Sm (some ([[S (ByteArray.mk (Array.mk [])), I ((0 : Int)), I ((0 : Int)), I ((0 : Int)), I ((0 : Int)), SV.slice 2 [] 1, I ((0 : Int)), I ((0 : Int)), I ((0 : Int)), I ((0 : Int)), I ((0 : Int)), I ((0 : Int)), I ((0 : Int)), I ((0 : Int)), I ((0 : Int)), I ((0 : Int)), I ((0 : Int)), I ((0 : Int)), I ((0 : Int)), I ((0 : Int)), I ((0 : Int))]]))) ∧ (Inv1 l3 x8 x9 b3 s1 x10 x11 x12 x13 l4 x14 x15 x16 x17 x18 x19 x20 x21 x22 x23 x24 x25 x26 x27 x28))) ∧ (∀ l5 x29, ∀ x30 b4, ∀ s2 x31, ∀ x32 x33, ∀ x34 l6, ∀ x35 x36, ∀ x37 x38, ∀ x39 x40, ∀ x41 x42, ∀ x43 x44, ∀ x45 x46, ∀ x47 x48 x49, (Inv1 l5 x29 x30 b4 s2 x31 x32 x33 x34 l6 x35 x36 x37 x38 x39 x40 x41 x42 x43 x44 x45 x46 x47 x48 x49) → ∃ Inv2 : (LL) → Int → Int → Bool → ByteArray → Int → Int → Int → Int → (LL) → Int → Int → Int → Int → Int → Int → Int → Int → Int → Int → Int → Int → Int → Int → Int → Prop, ∃ m2 : (LL) → Int → Int → Bool → ByteArray → Int → Int → Int → Int → (LL) → Int → Int → Int → Int → Int → Int → Int → Int → Int → Int → Int → Int → Int → Int → Int → Nat, (ifB (bpick (ieq x31 2) true (ieq x31 3)) (Cl Tryz.prog 147 (Sig.mk ([Md.lend [false, false, false, false]]) []) ([SV.agg [SL 1 l5, I x29, I x30, B b4]]) (fun rs3 => ∃ x50 l7, ∃ x51 x52 b5, (rs3 = [I x50, SV.agg [SL 1 l7, I x51, I x52, B b5]]) ∧ (Cl Tryz.prog 147 (Sig.mk ([Md.lend [false, false, false, false]]) []) ([SV.agg [SL 1 l7, I x51, I x52, B b5]]) (fun rs4 => ∃ x53 l8, ∃ x54 x55 b6, (rs4 = [I x53, SV.agg [SL 1 l8, I x54, I x55, B b6]]) ∧ ((Sm (some ([[S (ByteArray.mk (Array.mk [])), I ((0 : Int)), I ((0 : Int)), I ((0 : Int)), I ((0 : Int)), SV.slice 2 [] 1, I ((0 : Int)), I ((0 : Int)), I ((0 : Int)), I ((0 : Int)), I ((0 : Int)), I ((0 : Int)), I ((0 : Int)), I ((0 : Int)), I ((0 : Int)), I ((0 : Int)), I ((0 : Int)), I ((0 : Int)), I ((0 : Int)), I ((0 : Int)), I ((0 : Int))]]))) ∧ (Inv2 l8 x54 x55 b6 s2 x31 x32 x33 x34 l6 x35 x36 x37 x38 x39 x40 x41 x42 x43 x44 x50 x53 x47 x48 x49)))))) ((Sm (some ([[S (ByteArray.mk (Array.mk [])), I ((0 : Int)), I ((0 : Int)), I ((0 : Int)), I ((0 : Int)), SV.slice 2 [] 1, I ((0 : Int)), I ((0 : Int)), I ((0 : Int)), I ((0 : Int)), I ((0 : Int)), I ((0 : Int)), I ((0 : Int)), I ((0 : Int)), I ((0 : Int)), I ((0 : Int)), I ((0 : Int)), I ((0 : Int)), I ((0 : Int)), I ((0 : Int)), I ((0 : Int))]]))) ∧ (Inv2 l5 x29 x30 b4 s2 x31 x32 x33 x34 l6 x35 x36 x37 x38 x39 x40 x41 x42 x43 x44 x45 x46 x47 x48 x49))) ∧ (∀ l7 x50, ∀ x51 b5, ∀ s3 x52, ∀ x53 x54, ∀ x55 l8, ∀ x56 x57, ∀ x58 x59, ∀ x60 x61, ∀ x62 x63, ∀ x64 x65, ∀ x66 x67, ∀ x68 x69 x70, (Inv2 l7 x50 x51 b5 s3 x52 x53 x54 x55 l8 x56 x57 x58 x59 x60 x61 x62 x63 x64 x65 x66 x67 x68 x69 x70) → ∃ Inv3 : Int → (LL) → Int → Int → Bool → ByteArray → Int → Int → Int → Int → (LL) → Int → Int → Int → Int → Int → Int → Int → Int → Int → Int → Int → Int → Int → Int → Int → Prop, ∃ m3 : Int → (LL) → Int → Int → Bool → ByteArray → Int → Int → Int → Int → (LL) → Int → Int → Int → Int → Int → Int → Int → Int → Int → Int → Int → Int → Int → Int → Int → Nat, (Inv3 0 l7 x50 x51 b5 s3 x52 x53 x54 x55 l8 x56 x57 x58 x59 x60 x61 x62 x63 x64 x65 x66 x67 x68 x69 x70) ∧ (∀ x71 l9, ∀ x72 x73, ∀ b6 s4, ∀ x74 x75, ∀ x76 x77, ∀ l10 x78, ∀ x79 x80, ∀ x81 x82, ∀ x83 x84, ∀ x85 x86, ∀ x87 x88, ∀ x89 x90, ∀ x91 x92, (Inv3 x71 l9 x72 x73 b6 s4 x74 x75 x76 x77 l10 x78 x79 x80 x81 x82 x83 x84 x85 x86 x87 x88 x89 x90 x91 x92) → ifB (ilt x71 3) (Cl Tryz.prog 147 (Sig.mk ([Md.lend [false, false, false, false]]) []) ([SV.agg [SL 1 l9, I x72, I x73, B b6]]) (fun rs3 => ∃ x93 l11, ∃ x94 x95 b7, (rs3 = [I x93, SV.agg [SL 1 l11, I x94, I x95, B b7]]) ∧ ((((0 : Int) ≤ x71) ∧ (x71 < ((3 : Int)))) ∧ (((x71 = (0 : Int)) → (Sm (some ([[S (ByteArray.mk (Array.mk [])), I ((0 : Int)), I ((0 : Int)), I ((0 : Int)), I ((0 : Int)), SV.slice 2 [] 1, I ((0 : Int)), I ((0 : Int)), I ((0 : Int)), I ((0 : Int)), I ((0 : Int)), I ((0 : Int)), I ((0 : Int)), I ((0 : Int)), I ((0 : Int)), I ((0 : Int)), I ((0 : Int)), I ((0 : Int)), I ((0 : Int)), I ((0 : Int)), I ((0 : Int))]]))) ∧ ((Inv3 (wadd .i64 x71 1) l11 x94 x95 b7 s4 x74 x75 x76 x77 l10 x78 x79 x80 x81 x82 x83 x84 x85 x86 x87 x88 x89 x93 x91 x92) ∧ (Nat.le (Nat.succ (m3 (wadd .i64 x71 1) l11 x94 x95 b7 s4 x74 x75 x76 x77 l10 x78 x79 x80 x81 x82 x83 x84 x85 x86 x87 x88 x89 x93 x91 x92)) (m3 x71 l9 x72 x73 b6 s4 x74 x75 x76 x77 l10 x78 x79 x80 x81 x82 x83 x84 x85 x86 x87 x88 x89 x90 x91 x92)))) ∧ (((x71 = (1 : Int)) → (Sm (some ([[S (ByteArray.mk (Array.mk [])), I ((0 : Int)), I ((0 : Int)), I ((0 : Int)), I ((0 : Int)), SV.slice 2 [] 1, I ((0 : Int)), I ((0 : Int)), I ((0 : Int)), I ((0 : Int)), I ((0 : Int)), I ((0 : Int)), I ((0 : Int)), I ((0 : Int)), I ((0 : Int)), I ((0 : Int)), I ((0 : Int)), I ((0 : Int)), I ((0 : Int)), I ((0 : Int)), I ((0 : Int))]]))) ∧ ((Inv3 (wadd .i64 x71 1) l11 x94 x95 b7 s4 x74 x75 x76 x77 l10 x78 x79 x80 x81 x82 x83 x84 x85 x86 x87 x88 x89 x90 x93 x92) ∧ (Nat.le (Nat.succ (m3 (wadd .i64 x71 1) l11 x94 x95 b7 s4 x74 x75 x76 x77 l10 x78 x79 x80 x81 x82 x83 x84 x85 x86 x87 x88 x89 x90 x93 x92)) (m3 x71 l9 x72 x73 b6 s4 x74 x75 x76 x77 l10 x78 x79 x80 x81 x82 x83 x84 x85 x86 x87 x88 x89 x90 x91 x92)))) ∧ (((x71 = (2 : Int)) → (Sm (some ([[S (ByteArray.mk (Array.mk [])), I ((0 : Int)), I ((0 : Int)), I ((0 : Int)), I ((0 : Int)), SV.slice 2 [] 1, I ((0 : Int)), I ((0 : Int)), I ((0 : Int)), I ((0 : Int)), I ((0 : Int)), I ((0 : Int)), I ((0 : Int)), I ((0 : Int)), I ((0 : Int)), I ((0 : Int)), I ((0 : Int)), I ((0 : Int)), I ((0 : Int)), I ((0 : Int)), I ((0 : Int))]]))) ∧ ((Inv3 (wadd .i64 x71 1) l11 x94 x95 b7 s4 x74 x75 x76 x77 l10 x78 x79 x80 x81 x82 x83 x84 x85 x86 x87 x88 x89 x90 x91 x93) ∧ (Nat.le (Nat.succ (m3 (wadd .i64 x71 1) l11 x94 x95 b7 s4 x74 x75 x76 x77 l10 x78 x79 x80 x81 x82 x83 x84 x85 x86 x87 x88 x89 x90 x91 x93)) (m3 x71 l9 x72 x73 b6 s4 x74 x75 x76 x77 l10 x78 x79 x80 x81 x82 x83 x84 x85 x86 x87 x88 x89 x90 x91 x92)))) ∧ True)))))) (Q ([SV.agg [S s4, I x74, I x75, I x76, I x77, SL 2 l10, I x78, I x79, I x80, I x81, I x82, I x83, I x84, I x85, I x86, I x87, I x88, I x89, I x90, I x91, I x92], SV.agg [SL 1 l9, I x72, I x73, B b6]])))))))))))))) : Ct Tryz.prog 148 ⟨[.lend [false,false,false,false]], []⟩ [rd4 bs at_ er bad] Q :=
 fn_of (f := 148) SgT SvT (fun k => bif Nat.beq k 42 then some { slots := [(41,false,[.int .i64])], boxes := [(1048576,[.sl 1,.int .i64,.int .i64,.bool]),(384,[.str,.int .i64,.int .i64,.int .i64,.int .i64,.sl 2,.int .i64,.int .i64,.int .i64,.int .i64,.int .i64,.int .i64,.int .i64,.int .i64,.int .i64,.int .i64,.int .i64,.int .i64,.int .i64,.int .i64,.int .i64])], fixed := [256] } else bif Nat.beq k 72 then some { slots := [(71,false,[.int .i64])], boxes := [(1048576,[.sl 1,.int .i64,.int .i64,.bool]),(384,[.str,.int .i64,.int .i64,.int .i64,.int .i64,.sl 2,.int .i64,.int .i64,.int .i64,.int .i64,.int .i64,.int .i64,.int .i64,.int .i64,.int .i64,.int .i64,.int .i64,.int .i64,.int .i64,.int .i64,.int .i64])], fixed := [256] } else bif Nat.beq k 4000029 then some { boxes := [(1048576,[.sl 1,.int .i64,.int .i64,.bool]),(384,[.str,.int .i64,.int .i64,.int .i64,.int .i64,.sl 2,.int .i64,.int .i64,.int .i64,.int .i64,.int .i64,.int .i64,.int .i64,.int .i64,.int .i64,.int .i64,.int .i64,.int .i64,.int .i64,.int .i64,.int .i64])], fixed := [256] } else bif Nat.beq k 4000040 then some { boxes := [(1048576,[.sl 1,.int .i64,.int .i64,.bool]),(384,[.str,.int .i64,.int .i64,.int .i64,.int .i64,.sl 2,.int .i64,.int .i64,.int .i64,.int .i64,.int .i64,.int .i64,.int .i64,.int .i64,.int .i64,.int .i64,.int .i64,.int .i64,.int .i64,.int .i64,.int .i64])], fixed := [256] } else bif Nat.beq k 4000062 then some { boxes := [(1048576,[.sl 1,.int .i64,.int .i64,.bool]),(384,[.str,.int .i64,.int .i64,.int .i64,.int .i64,.sl 2,.int .i64,.int .i64,.int .i64,.int .i64,.int .i64,.int .i64,.int .i64,.int .i64,.int .i64,.int .i64,.int .i64,.int .i64,.int .i64,.int .i64,.int .i64])], fixed := [256] } else none) Tryz.f148 Tryz.func148 (by kernel_rfl) (by kernel_rfl) h

theorem rdec_nf (bs : LL) (Q : List SV → Prop) (h : Cl Tryz.prog 146 sP [SL 1 bs] (fun rs => ∃ l x x1, (rs = [SV.agg [SL 1 l, I x, I x1]]) ∧ (Cl Tryz.prog 147 (Sig.mk ([Md.lend [false, false, false, false]]) []) ([SV.agg [SL 1 l, I x, I x1, B false]]) (fun rs1 => ∃ x2 l1, ∃ x3 x4 b, (rs1 = [I x2, SV.agg [SL 1 l1, I x3, I x4, B b]]) ∧ (ifB (igt x2 12) (Q ([SV.agg ([SL 21 [], I ((0 : Int)), I ((0 : Int))]), I 11])) (∃ Inv : Int → (LL) → Int → Int → Bool → (LL) → Int → Int → Prop, ∃ m : Int → (LL) → Int → Int → Bool → (LL) → Int → Int → Nat, (Inv 0 l1 x3 x4 b [] ((0 : Int)) ((0 : Int))) ∧ (∀ x5 l2, ∀ x6 x7, ∀ b1 l3, ∀ x8 x9, (Inv x5 l2 x6 x7 b1 l3 x8 x9) → ifB (ilt x5 x2) (Cl Tryz.prog 148 (Sig.mk ([Md.lend [false, false, false, false]]) []) ([SV.agg [SL 1 l2, I x6, I x7, B b1]]) (fun rs2 => ∃ s x10, ∃ x11 x12, ∃ x13 l4, ∃ x14 x15, ∃ x16 x17, ∃ x18 x19, ∃ x20 x21, ∃ x22 x23, ∃ x24 x25, ∃ x26 x27, ∃ x28 l5, ∃ x29 x30 b2, (rs2 = [SV.agg [S s, I x10, I x11, I x12, I x13, SL 2 l4, I x14, I x15, I x16, I x17, I x18, I x19, I x20, I x21, I x22, I x23, I x24, I x25, I x26, I x27, I x28], SV.agg [SL 1 l5, I x29, I x30, B b2]]) ∧ (((lsum (rlen l3) (rlen ([[S s, I x10, I x11, I x12, I x13, SL 2 l4, I x14, I x15, I x16, I x17, I x18, I x19, I x20, I x21, I x22, I x23, I x24, I x25, I x26, I x27, I x28]]))) ≤ ((2147483648 : Int))) ∧ ((Sm (some ([[SV.slice 21 [] 1, I ((0 : Int)), I ((0 : Int))]]))) ∧ ((Inv (wadd .i64 x5 1) l5 x29 x30 b2 (rapp l3 ([[S s, I x10, I x11, I x12, I x13, SL 2 l4, I x14, I x15, I x16, I x17, I x18, I x19, I x20, I x21, I x22, I x23, I x24, I x25, I x26, I x27, I x28]])) x8 x9) ∧ (Nat.le (Nat.succ (m (wadd .i64 x5 1) l5 x29 x30 b2 (rapp l3 ([[S s, I x10, I x11, I x12, I x13, SL 2 l4, I x14, I x15, I x16, I x17, I x18, I x19, I x20, I x21, I x22, I x23, I x24, I x25, I x26, I x27, I x28]])) x8 x9)) (m x5 l2 x6 x7 b1 l3 x8 x9))))))) (Cl Tryz.prog 147 (Sig.mk ([Md.lend [false, false, false, false]]) []) ([SV.agg [SL 1 l2, I x6, I x7, B b1]]) (fun rs2 => ∃ x10 l4, ∃ x11 x12 b2, (rs2 = [I x10, SV.agg [SL 1 l4, I x11, I x12, B b2]]) ∧ (Cl Tryz.prog 147 (Sig.mk ([Md.lend [false, false, false, false]]) []) ([SV.agg [SL 1 l4, I x11, I x12, B b2]]) (fun rs3 => ∃ x13 l5, ∃ x14 x15 b3, (rs3 = [I x13, SV.agg [SL 1 l5, I x14, I x15, B b3]]) ∧ (ifB b3 (Q ([SV.agg ([SL 21 [], I ((0 : Int)), I ((0 : Int))]), I 11])) (Cl Tryz.prog 149 sP ([SV.agg [SL 1 l5, I x14, I x15]]) (fun rs4 => ∃ x16, (rs4 = [I x16]) ∧ (ifB (ine x16 0) (Q ([SV.agg ([SL 21 [], I ((0 : Int)), I ((0 : Int))]), I 11])) (Cl Tryz.prog 43 sP ([SV.agg [SL 21 l3, I x10, I x13]]) (fun rs5 => ∃ b4, (rs5 = [B b4]) ∧ (ifB (bnot b4) (Q ([SV.agg ([SL 21 [], I ((0 : Int)), I ((0 : Int))]), I 11])) (Q ([SV.agg [SL 21 l3, I x10, I x13], I 0])))))))))))))))))))) : Ct Tryz.prog 78 {} [SL 1 bs] Q :=
 fn_of (f := 78) SgT SvT (fun k => bif Nat.beq k 18 then some { slots := [(17,false,[.int .i64])], boxes := [(1280,[.sl 1,.int .i64,.int .i64,.bool]),(640,[.own 21,.int .i64,.int .i64])], fixed := [256] } else none) Tryz.f78 Tryz.func78 (by kernel_rfl) (by kernel_rfl) h

theorem rtake16_nf (bs : LL) (at_ er : Int) (n : Int) (Q : List SV → Prop) (h : ∃ Inv : (LL) → Int → (LL) → Int → Int → Prop, ∃ m : (LL) → Int → (LL) → Int → Int → Nat, (Inv [] 0 bs at_ er) ∧ (∀ l x, ∀ l1 x1 x2, (Inv l x l1 x1 x2) → ifB (ilt x n) (Cl Tryz.prog 130 sP ([SV.agg [SL 1 l1, I x1, I x2]]) (fun rs => ∃ l2 x3, ∃ x4 x5, (rs = [SV.agg [SL 1 l2, I x3, I x4], U64 x5]) ∧ (ifB (igt x5 1099511627776) (((lsum (rlen l) (rlen ([[I ((-1 : Int))]]))) ≤ ((2147483648 : Int))) ∧ ((Sm (some ([[SV.slice 1 [] 1, I ((0 : Int)), I ((0 : Int))]]))) ∧ ((Inv (rapp l ([[I ((-1 : Int))]])) (wadd .i64 x 1) l2 x3 x4) ∧ (Nat.le (Nat.succ (m (rapp l ([[I ((-1 : Int))]])) (wadd .i64 x 1) l2 x3 x4)) (m l x l1 x1 x2))))) (((lsum (rlen l) (rlen ([[I (wcv .i64 x5)]]))) ≤ ((2147483648 : Int))) ∧ ((Sm (some ([[SV.slice 1 [] 1, I ((0 : Int)), I ((0 : Int))]]))) ∧ ((Inv (rapp l ([[I (wcv .i64 x5)]])) (wadd .i64 x 1) l2 x3 x4) ∧ (Nat.le (Nat.succ (m (rapp l ([[I (wcv .i64 x5)]])) (wadd .i64 x 1) l2 x3 x4)) (m l x l1 x1 x2)))))))) (Q ([SV.agg [SL 1 l1, I x1, I x2], SL 1 l])))) : Ct Tryz.prog 150 {} [cu3 bs at_ er, I n] Q :=
 fn_of (f := 150) SgT SvT (fun k => bif Nat.beq k 10 then some { slots := [(6,false,[.own 1]),(7,false,[.int .i64])], boxes := [(256,[.sl 1,.int .i64,.int .i64])], fixed := [512] } else none) Tryz.f150 Tryz.func150 (by kernel_rfl) (by kernel_rfl) h

end Go.Proofs.YtbocfphenkidnaaGreatDoor.Row

namespace Go.Proofs.YtbocfphenkidnaaGreatDoor.Row
open Go Go.Px Go.Proofs Cmp Go.Proofs.YtbocfphenkidnaaGreatDoor.St Cod
set_option maxRecDepth 100000
set_option linter.unusedVariables false

def Gd (l pre : List Int) (a er : Int) (b : Bool) : Prop := b = false ∧ er = 0 ∧ a = pre.length ∧ pre <+: l

structure NR (l : List Int) (a er : Int) (b : Bool) (n a' er' : Int) (b' : Bool) : Prop where
 rg : rng n
 snd : b' = false → b = false ∧ ∀ pre, Gd l pre a er b → Gd l (pre ++ leb n.toNat) a' er' b'
 cmp : ∀ pre (m : Int), rng m → Gd l pre a er b → pre ++ leb m.toNat <+: l → b' = false ∧ n = m

theorem num_fn (l : List Int) (a er : Int) (b : Bool) (hl : l.length ≤ 100000) (hb : Byts l) : Ct Tryz.prog 147 sL [rd4 (bR l) a er b] (fun r => ∃ n a' er' b', r = [I n, rd4 (bR l) a' er' b'] ∧ NR l a er b n a' er' b') := by
 refine rnum_nf _ _ _ _ _ (Cl.ofQ (uintS_fn l a er hl hb) ?_)
 rintro r ⟨a1, er1, n, rfl, ho, hs⟩
 have n0 := ho.n0
 have key : ∀ pre (m : Int), rng m → Gd l pre a er b → pre ++ leb m.toNat <+: l → er1 = 0 ∧ n = m ∧ b = false := by
  rintro pre m hm ⟨b0, e0, ha, hpre⟩ hp
  obtain ⟨t, ht⟩ := drop_pre ha hp
  unfold rng at hm
  obtain ⟨g1, g2, g3⟩ := ho.good e0 (by omega) m.toNat t ht (by omega)
  exact ⟨g2, by omega, b0⟩
 refine ⟨_, _, _, _, rfl, ifB_intro (fun h => ?_) (fun h => ?_)⟩
 ·simp at h
  refine ⟨0, a1, er1, true, rfl, ⟨by unfold rng; omega, (fun e => nomatch e), fun pre m hm hg hp => ?_⟩⟩
  obtain ⟨k1, k2, _⟩ := key pre m hm hg hp
  unfold rng at hm
  omega
 ·simp at h
  rw [wcvI64 (by omega) (by omega)]
  refine ⟨n, a1, er1, b, rfl, ⟨⟨n0, by omega⟩, fun e => ⟨e, fun pre hg => ?_⟩, fun pre m hm hg hp => ?_⟩⟩
  ·obtain ⟨b0, e0, ha, hpre⟩ := hg
   obtain ⟨s1, s2, rest, s3, s4⟩ := hs h.1
   exact ⟨b0, h.1, by simp; omega, pre_drop ha hpre s3⟩
  ·obtain ⟨k1, k2, k3⟩ := key pre m hm hg hp
   exact ⟨k3, k2⟩

structure PS (l : List Int) (a0 er0 : Int) (b0 : Bool) (s : ByteArray) (ns : List Int) (a er : Int) (b : Bool) : Prop where
 rg : ∀ n ∈ ns, rng n
 snd : b = false → b0 = false ∧ s.size ≤ 24 ∧ ∀ pre, Gd l pre a0 er0 b0 → Gd l (pre ++ (leb s.size ++ (txB s ++ encN ns))) a er b
 cmp : ∀ pre c0, shp c0 → Gd l pre a0 er0 b0 → pre ++ encC c0 <+: l → b = false ∧ c0.nm = s ∧ ns <+: numC c0

theorem PS.num {l : List Int} {a0 er0 : Int} {b0 : Bool} {s : ByteArray} {ns : List Int} {a er : Int} {b : Bool} {n a' er' : Int} {b' : Bool} (p : PS l a0 er0 b0 s ns a er b) (q : NR l a er b n a' er' b')
  (h : ∀ c0, shp c0 → ns <+: numC c0 → ns.length < (numC c0).length) : PS l a0 er0 b0 s (ns ++ [n]) a' er' b' := by
 refine ⟨fun x hx => ?_, fun e => ?_, fun pre c0 hs hg hp => ?_⟩
 ·rcases List.mem_append.1 hx with hx | hx
  ·exact p.rg x hx
  ·simp at hx; rw [hx]; exact q.rg
 ·obtain ⟨e1, k1⟩ := q.snd e
  obtain ⟨e2, e3, k2⟩ := p.snd e1
  refine ⟨e2, e3, fun pre hg => ?_⟩
  have := k1 _ (k2 pre hg)
  rw [encN_app, encN_one]
  simpa using this
 ·obtain ⟨e1, e2, ⟨t, e3⟩⟩ := p.cmp pre c0 hs hg hp
  have hlt := h c0 hs ⟨t, e3⟩
  cases t with
  | nil => rw [← e3] at hlt; simp at hlt
  | cons m t =>
   have hm : rng m := hs.n m (by rw [← e3]; simp)
   have hpre : pre ++ (leb s.size ++ (txB s ++ encN ns)) ++ leb m.toNat <+: l := by
    have : encC c0 = (leb s.size ++ (txB s ++ encN ns) ++ leb m.toNat) ++ encN t := by
     rw [encC, ← e3, e2, encN_app, show m :: t = [m] ++ t from rfl, encN_app, encN_one]
     simp
    rw [this] at hp
    have := pre_more hp
    simpa using this
   obtain ⟨f1, f2⟩ := q.cmp _ m hm ((p.snd e1).2.2 pre hg) hpre
   exact ⟨f1, e2, ⟨t, by rw [← e3, f2]; simp⟩⟩

theorem PS.bad {l : List Int} {a0 er0 : Int} {b0 : Bool} {s s' : ByteArray} {ns ns' : List Int} {a er : Int} {b : Bool} {a' er' : Int} (p : PS l a0 er0 b0 s ns a er b)
  (h : ∀ c0, shp c0 → ns <+: numC c0 → False) (hr : ∀ n ∈ ns', rng n) : PS l a0 er0 b0 s' ns' a' er' true :=
 ⟨hr, (fun e => nomatch e), fun pre c0 hs hg hp => (h c0 hs (p.cmp pre c0 hs hg hp).2.2).elim⟩

theorem rtxt_fn (l : List Int) (a er : Int) (b : Bool) (hl : l.length ≤ 100000) (hb : Byts l) : Ct Tryz.prog 205 sL [rd4 (bR l) a er b] (fun r => ∃ s a' er' b', r = [S s, rd4 (bR l) a' er' b'] ∧ PS l a er b s [] a' er' b') := by
 refine rtxt_nf _ _ _ _ _ (Cl.ofQ (textS_fn l a er hl hb) ?_)
 rintro r ⟨a1, er1, s, rfl, ho, hs⟩
 have key : ∀ pre c0, shp c0 → Gd l pre a er b → pre ++ encC c0 <+: l → er1 = 0 ∧ s = c0.nm ∧ b = false := by
  rintro pre c0 hc ⟨b0, e0, ha, hpre⟩ hp
  obtain ⟨t, ht⟩ := drop_pre ha hp
  obtain ⟨g1, g2, g3⟩ := ho.good e0 (by omega) c0.nm (encN (numC c0) ++ t) (by rw [ht, encC]; simp) hc.nm
  exact ⟨g2, g3, b0⟩
 refine ⟨_, _, _, _, rfl, ifB_intro (fun h => ?_) (fun h => ?_)⟩
 ·simp at h
  refine ⟨_, _, _, _, rfl, ⟨by simp, (fun e => nomatch e), fun pre c0 hc hg hp => ?_⟩⟩
  exact absurd (key pre c0 hc hg hp).1 h
 ·simp at h
  obtain ⟨s1, s2, s0, rest, s3, s4⟩ := hs h
  refine ⟨_, _, _, _, rfl, ⟨by simp, fun e => ⟨e, s0, fun pre hg => ?_⟩, fun pre c0 hc hg hp => ?_⟩⟩
  ·obtain ⟨b0, e0, ha, hpre⟩ := hg
   refine ⟨b0, h, by simp [encN_nil, txB_len]; omega, ?_⟩
   have := pre_drop (x := leb s.size ++ txB s) (t := rest) ha hpre (by rw [s3, List.append_assoc])
   simpa [encN_nil] using this
  ·obtain ⟨k1, k2, k3⟩ := key pre c0 hc hg hp
   exact ⟨k3, k2.symm, List.nil_prefix⟩

def WR (l : List Int) (a er : Int) (b : Bool) (wd sl : Int) (cl : List (Int × Int)) (a' er' : Int) (b' : Bool) : Prop :=
 cl.length ≤ 16 ∧ ∀ a0 er0 b0 s mo, PS l a0 er0 b0 s [1, mo] a er b → PS l a0 er0 b0 s (bas 1 mo wd sl cl) a' er' b'

theorem bas1 (mo wd sl : Int) (cl : List (Int × Int)) : bas 1 mo wd sl cl = [1, mo, wd, sl, (cl.length : Int)] ++ flat cl := by simp [bas]

theorem win_len {c0 : CoD} (hs : shp c0) {mo wd sl k : Int} {x : List Int} (h : ([1, mo, wd, sl, k] ++ x) <+: numC c0) : (numC c0).length = 18 + 2 * k.toNat ∧ 0 ≤ k ∧ k ≤ 16 := by
 obtain ⟨r1, r2, r3, r4, r5⟩ := pre_win h
 have := hs.cl
 refine ⟨?_, by omega, by omega⟩
 simp only [numC, List.length_append, bas_len, hst_len, bck_len, r1, List.length_cons, List.length_nil]
 simp
 omega

theorem rwin_fn (l : List Int) (a er : Int) (b : Bool) (hl : l.length ≤ 100000) (hb : Byts l) : Ct Tryz.prog 206 sL [rd4 (bR l) a er b] (fun r => ∃ wd sl cl a' er' b', r = [.agg [I wd, I sl, SL 2 (cR cl)], rd4 (bR l) a' er' b'] ∧ WR l a er b wd sl cl a' er' b') := by
 refine rwin_nf _ _ _ _ _ (Cl.ofQ (num_fn l a er b hl hb) ?_)
 rintro r ⟨wd, a1, er1, b1, rfl, h1⟩
 refine ⟨_, _, _, _, _, rfl, Cl.ofQ (num_fn l a1 er1 b1 hl hb) ?_⟩
 rintro r ⟨sl, a2, er2, b2, rfl, h2⟩
 refine ⟨_, _, _, _, _, rfl, Cl.ofQ (num_fn l a2 er2 b2 hl hb) ?_⟩
 rintro r ⟨k, a3, er3, b3, rfl, h3⟩
 have p3 : ∀ a0 er0 b0 s mo, PS l a0 er0 b0 s [1, mo] a er b → PS l a0 er0 b0 s [1, mo, wd, sl, k] a3 er3 b3 := by
  intro a0 er0 b0 s mo p
  have q1 := p.num h1 (fun c0 _ _ => by have := numC_len (c := c0); simp; omega)
  have q2 := q1.num h2 (fun c0 _ _ => by have := numC_len (c := c0); simp; omega)
  have q3 := q2.num h3 (fun c0 hs hp => by
   have := numC_len (c := c0); simp; omega)
  simpa using q3
 have k0 := h3.rg
 unfold rng at k0
 refine ⟨_, _, _, _, _, rfl, ifB_intro (fun h => ?_) (fun h => ?_)⟩
 ·simp at h
  refine ⟨wd, sl, [], a3, er3, true, rfl, by simp, fun a0 er0 b0 s mo p => ?_⟩
  have hp := p3 a0 er0 b0 s mo p
  refine hp.bad (fun c0 hs hh => ?_) (fun n hn => ?_)
  ·have := win_len (x := []) hs (by simpa using hh)
   omega
  ·rw [bas1] at hn
   simp [flat] at hn
   rcases hn with rfl | rfl | rfl | rfl | rfl
   ·exact hp.rg _ (by simp)
   ·exact hp.rg _ (by simp)
   ·exact hp.rg _ (by simp)
   ·exact hp.rg _ (by simp)
   ·unfold rng; omega
 ·simp at h
  refine ⟨fun i l' a' er' b' wd' sl' rows => l' = bR l ∧ wd' = wd ∧ sl' = sl ∧ 0 ≤ i ∧ i ≤ k ∧ ∃ cl, rows = cR cl ∧ (cl.length : Int) = i ∧ ∀ a0 er0 b0 s mo, PS l a0 er0 b0 s [1, mo] a er b → PS l a0 er0 b0 s ([1, mo, wd, sl, k] ++ flat cl) a' er' b',
   fun i _ _ _ _ _ _ _ => (k - i).toNat, ⟨rfl, rfl, rfl, by omega, by omega, [], rfl, rfl, fun a0 er0 b0 s mo p => by simpa [flat] using p3 a0 er0 b0 s mo p⟩, ?_⟩
  rintro i _ a4 er4 b4 _ _ _ ⟨rfl, rfl, rfl, i0, i1, cl, rfl, hcl, hp⟩
  refine ifB_intro (fun hi => ?_) (fun hi => ?_)
  ·simp at hi
   refine Cl.ofQ (num_fn l a4 er4 b4 hl hb) ?_
   rintro r ⟨x, a5, er5, b5, rfl, h5⟩
   refine ⟨_, _, _, _, _, rfl, Cl.ofQ (num_fn l a5 er5 b5 hl hb) ?_⟩
   rintro r ⟨y, a6, er6, b6, rfl, h6⟩
   have w : wadd IntKind.i64 i 1 = i + 1 := wadd_i64 (by omega) (by omega)
   rw [w]
   refine ⟨_, _, _, _, _, rfl, ?_, rfl, ⟨rfl, rfl, rfl, by omega, by omega, cl ++ [(x, y)], by simp [rapp], by simp; omega, fun a0 er0 b0 s mo p => ?_⟩, ?_⟩
   ·simp [lsum, rlen]; omega
   ·have q := hp a0 er0 b0 s mo p
    have q1 := q.num h5 (fun c0 hs hh => by
     have := win_len hs hh
     simp [flat_len]; omega)
    have q2 := q1.num h6 (fun c0 hs hh => by
     have := win_len (x := flat cl ++ [x]) hs (by simpa using hh)
     simp [flat_len]; omega)
    have e : flat (cl ++ [(x, y)]) = flat cl ++ [x] ++ [y] := by simp [flat]
    rw [e]
    simpa using q2
   ·show Nat.succ (k - (i + 1)).toNat ≤ (k - i).toNat; omega
  ·simp at hi
   have : i = k := by omega
   subst this
   refine ⟨_, _, cl, _, _, _, rfl, by omega, fun a0 er0 b0 s mo p => ?_⟩
   rw [bas1, hcl]
   exact hp a0 er0 b0 s mo p


structure CR (l : List Int) (a er : Int) (b : Bool) (c : CoD) (a' er' : Int) (b' : Bool) : Prop where
 cl : c.cl.length ≤ 16
 snd : b' = false → shp c ∧ b = false ∧ ∀ pre, Gd l pre a er b → Gd l (pre ++ encC c) a' er' b'
 cmp : ∀ pre c0, shp c0 → Gd l pre a er b → pre ++ encC c0 <+: l → b' = false ∧ c = c0

theorem CR.ofPS {l : List Int} {a er : Int} {b : Bool} {c : CoD} {a' er' : Int} {b' : Bool} (p : PS l a er b c.nm (numC c) a' er' b') (hz : zro c) (hr : 1 ≤ c.ro ∧ c.ro ≤ 3) (hc : c.cl.length ≤ 16) : CR l a er b c a' er' b' := by
 refine ⟨hc, fun e => ?_, fun pre c0 hs hg hp => ?_⟩
 ·obtain ⟨k1, k2, k3⟩ := p.snd e
  exact ⟨⟨hz, hr, k2, hc, p.rg⟩, k1, k3⟩
 ·obtain ⟨k1, k2, k3⟩ := p.cmp pre c0 hs hg hp
  exact ⟨k1, numC_inj hz hs.z k2.symm k3⟩

theorem lt_bas {c0 : CoD} {ro mo wd sl : Int} {cl : List (Int × Int)} {x : List Int} (h : (bas ro mo wd sl cl ++ x) <+: numC c0)
  (hx : x.length < (if ro = 1 ∨ ro = 3 then 10 else 0) + ((if ro = 2 ∨ ro = 3 then 2 else 0) + 3)) : (bas ro mo wd sl cl ++ x).length < (numC c0).length := by
 rw [(pre_bas h).2, List.length_append]; omega

theorem rcomp_fn (l : List Int) (a er : Int) (b : Bool) (hl : l.length ≤ 100000) (hb : Byts l) : Ct Tryz.prog 148 sL [rd4 (bR l) a er b] (fun r => ∃ c a' er' b', r = [CoD.sv c, rd4 (bR l) a' er' b'] ∧ CR l a er b c a' er' b') := by
 refine rcomp_nf _ _ _ _ _ (Cl.ofQ (rtxt_fn l a er b hl hb) ?_)
 rintro r ⟨s, a1, er1, b1, rfl, p1⟩
 refine ⟨_, _, _, _, _, rfl, Cl.ofQ (num_fn l a1 er1 b1 hl hb) ?_⟩
 rintro r ⟨ro, a2, er2, b2, rfl, n2⟩
 have p2 := p1.num n2 (fun c0 _ _ => by have := numC_len (c := c0); simp; omega)
 simp only [List.nil_append] at p2
 refine ⟨_, _, _, _, _, rfl, ifB_intro (fun h => ?_) (fun h => ?_)⟩
 ·simp at h
  have p3 : PS l a er b s [] a2 er2 true := p2.bad (s' := s) (ns' := []) (a' := a2) (er' := er2) (fun c0 hs hh => by
   obtain ⟨t, hh⟩ := hh
   have : c0.ro = ro := by simp only [numC, bas, List.cons_append, List.nil_append, List.cons.injEq] at hh; exact hh.1.symm
   have := hs.r
   omega) (by simp)
  refine ⟨⟨s, 0, 0, 0, 0, [], 0, 0, 0, 0, 0, 0, 0, 0, 0, 0, 0, 0, 0, 0, 0⟩, a2, er2, true, rfl, ⟨by simp, (fun e => nomatch e), fun pre c0 hs hg hp => ?_⟩⟩
  exact absurd (p3.cmp pre c0 hs hg hp).1 (by decide)
 simp at h
 refine Cl.ofQ (num_fn l a2 er2 b2 hl hb) ?_
 rintro r ⟨mo, a3, er3, b3, rfl, n3⟩
 have p3 := p2.num n3 (fun c0 _ _ => by have := numC_len (c := c0); simp; omega)
 simp only [List.cons_append, List.nil_append] at p3
 refine ⟨_, _, _, _, _, rfl,
  fun l' a' er' b' s' ro' mo' wd sl rows h0 h1 h2 h3 h4 h5 h6 h7 h8 hs rm ha c0 c1 c2 => l' = bR l ∧ s' = s ∧ ro' = ro ∧ mo' = mo ∧ (h0 = 0 ∧ h1 = 0 ∧ h2 = 0 ∧ h3 = 0 ∧ h4 = 0 ∧ h5 = 0 ∧ h6 = 0 ∧ h7 = 0 ∧ h8 = 0 ∧ hs = 0) ∧ (rm = 0 ∧ ha = 0) ∧
   ∃ cl, rows = cR cl ∧ cl.length ≤ 16 ∧ (ro ≠ 1 → wd = 0 ∧ sl = 0 ∧ cl = []) ∧ PS l a er b s (bas ro mo wd sl cl) a' er' b',
  fun _ _ _ _ _ _ _ _ _ _ _ _ _ _ _ _ _ _ _ _ _ _ _ _ _ => 0, ifB_intro (fun e => ?_) (fun e => ?_), ?_⟩
 ·simp at e
  subst e
  refine Cl.ofQ (rwin_fn l a3 er3 b3 hl hb) ?_
  rintro r ⟨wd, sl, cl, a4, er4, b4, rfl, hw⟩
  exact ⟨_, _, _, _, _, _, _, rfl, rfl, rfl, rfl, rfl, rfl, ⟨rfl, rfl, rfl, rfl, rfl, rfl, rfl, rfl, rfl, rfl⟩, ⟨rfl, rfl⟩, cl, rfl, hw.1, (fun h => absurd rfl h), hw.2 _ _ _ _ _ p3⟩
 ·simp at e
  refine ⟨rfl, rfl, rfl, rfl, rfl, ⟨rfl, rfl, rfl, rfl, rfl, rfl, rfl, rfl, rfl, rfl⟩, ⟨rfl, rfl⟩, [], rfl, by simp, fun _ => ⟨rfl, rfl, rfl⟩, ?_⟩
  have : bas ro mo 0 0 [] = [ro, mo] := by simp [bas, e]
  rw [this]; exact p3
 rintro _ a4 er4 b4 s ro mo wd sl _ h0 h1 h2 h3 h4 h5 h6 h7 h8 hs rm ha c0 c1 c2 ⟨rfl, rfl, rfl, rfl, hz, hz2, cl, rfl, hcl, hcz, p4⟩
 refine ⟨fun l' a' er' b' s' ro' mo' wd' sl' rows g0 g1 g2 g3 g4 g5 g6 g7 g8 gs rm ha c0 c1 c2 => l' = bR l ∧ s' = s ∧ ro' = ro ∧ mo' = mo ∧ wd' = wd ∧ sl' = sl ∧ rows = cR cl ∧ (rm = 0 ∧ ha = 0) ∧
   (ro ≠ 1 → ro ≠ 3 → g0 = 0 ∧ g1 = 0 ∧ g2 = 0 ∧ g3 = 0 ∧ g4 = 0 ∧ g5 = 0 ∧ g6 = 0 ∧ g7 = 0 ∧ g8 = 0 ∧ gs = 0) ∧
   PS l a er b s (bas ro mo wd sl cl ++ hst ro [g0, g1, g2, g3, g4, g5, g6, g7, g8, gs]) a' er' b',
  fun _ _ _ _ _ _ _ _ _ _ _ _ _ _ _ _ _ _ _ _ _ _ _ _ _ => 0, ifB_intro (fun e => ?_) (fun e => ?_), ?_⟩
 ·simp at e
  refine ⟨fun x l' a' er' b' s' ro' mo' wd' sl' rows g0 g1 g2 g3 g4 g5 g6 g7 g8 gs rm ha c0 c1 c2 => 0 ≤ x ∧ x ≤ 9 ∧ l' = bR l ∧ s' = s ∧ ro' = ro ∧ mo' = mo ∧ wd' = wd ∧ sl' = sl ∧ rows = cR cl ∧ (rm = 0 ∧ ha = 0) ∧
    PS l a er b s (bas ro mo wd sl cl ++ [g0, g1, g2, g3, g4, g5, g6, g7, g8].take x.toNat) a' er' b',
   fun x _ _ _ _ _ _ _ _ _ _ _ _ _ _ _ _ _ _ _ _ _ _ _ _ _ => (9 - x).toNat, ⟨by omega, by omega, rfl, rfl, rfl, rfl, rfl, rfl, rfl, hz2, by simpa using p4⟩, ?_⟩
  rintro x _ a5 er5 b5 s ro mo wd sl _ g0 g1 g2 g3 g4 g5 g6 g7 g8 gs rm ha c0 c1 c2 ⟨x0, x9, rfl, rfl, rfl, rfl, rfl, rfl, rfl, hz3, p5⟩
  refine ifB_intro (fun hx => ?_) (fun hx => ?_)
  ·simp at hx
   refine Cl.ofQ (num_fn l a5 er5 b5 hl hb) ?_
   rintro r ⟨v, a6, er6, b6, rfl, n6⟩
   have p6 := p5.num n6 (fun c0 hs hh => lt_bas hh (by rw [if_pos e]; simp; omega))
   have w : wadd IntKind.i64 x 1 = x + 1 := wadd_i64 (by omega) (by omega)
   rw [w]
   have step : ∀ (k : Nat) (f0 f1 f2 f3 f4 f5 f6 f7 f8 : Int), x = (k : Int) → [f0, f1, f2, f3, f4, f5, f6, f7, f8].take (k + 1) = [g0, g1, g2, g3, g4, g5, g6, g7, g8].take k ++ [v] →
     (0 ≤ x + 1 ∧ x + 1 ≤ 9 ∧ bR l = bR l ∧ s = s ∧ ro = ro ∧ mo = mo ∧ wd = wd ∧ sl = sl ∧ cR cl = cR cl ∧ (rm = 0 ∧ ha = 0) ∧
      PS l a er b s (bas ro mo wd sl cl ++ [f0, f1, f2, f3, f4, f5, f6, f7, f8].take (x + 1).toNat) a6 er6 b6) ∧ Nat.le (Nat.succ (9 - (x + 1)).toNat) (9 - x).toNat := by
    intro k f0 f1 f2 f3 f4 f5 f6 f7 f8 hk hf
    refine ⟨⟨by omega, by omega, rfl, rfl, rfl, rfl, rfl, rfl, rfl, hz3, ?_⟩, by show Nat.succ _ ≤ _; omega⟩
    have e1 : (x + 1).toNat = k + 1 := by omega
    have e2 : x.toNat = k := by omega
    rw [e1, hf, ← List.append_assoc, ← e2]
    exact p6
   exact ⟨_, _, _, _, _, rfl, ⟨x0, hx⟩, fun e => ⟨rfl, step 0 _ _ _ _ _ _ _ _ _ e rfl⟩, fun e => ⟨rfl, step 1 _ _ _ _ _ _ _ _ _ e rfl⟩, fun e => ⟨rfl, step 2 _ _ _ _ _ _ _ _ _ e rfl⟩, fun e => ⟨rfl, step 3 _ _ _ _ _ _ _ _ _ e rfl⟩,
    fun e => ⟨rfl, step 4 _ _ _ _ _ _ _ _ _ e rfl⟩, fun e => ⟨rfl, step 5 _ _ _ _ _ _ _ _ _ e rfl⟩, fun e => ⟨rfl, step 6 _ _ _ _ _ _ _ _ _ e rfl⟩, fun e => ⟨rfl, step 7 _ _ _ _ _ _ _ _ _ e rfl⟩, fun e => ⟨rfl, step 8 _ _ _ _ _ _ _ _ _ e rfl⟩, trivial⟩
  ·simp at hx
   have : x = 9 := by omega
   subst this
   refine Cl.ofQ (num_fn l a5 er5 b5 hl hb) ?_
   rintro r ⟨v, a6, er6, b6, rfl, n6⟩
   have p6 := p5.num n6 (fun c0 hs hh => lt_bas hh (by rw [if_pos e]; simp; omega))
   refine ⟨_, _, _, _, _, rfl, rfl, rfl, rfl, rfl, rfl, rfl, rfl, rfl, hz3, fun q1 q2 => (e.elim q1 q2).elim, ?_⟩
   have : hst ro [g0, g1, g2, g3, g4, g5, g6, g7, g8, v] = [g0, g1, g2, g3, g4, g5, g6, g7, g8].take (9 : Int).toNat ++ [v] := by unfold hst; rw [if_pos e]; rfl
   rw [this, ← List.append_assoc]
   exact p6
 ·simp at e
  refine ⟨rfl, rfl, rfl, rfl, rfl, rfl, rfl, rfl, hz2, fun _ _ => hz, ?_⟩
  have : hst ro [h0, h1, h2, h3, h4, h5, h6, h7, h8, hs] = [] := by unfold hst; rw [if_neg (by omega)]
  rw [this, List.append_nil]
  exact p4
 rintro _ a5 er5 b5 s ro mo wd sl _ h0 h1 h2 h3 h4 h5 h6 h7 h8 hs rm ha c0 c1 c2 ⟨rfl, rfl, rfl, rfl, rfl, rfl, rfl, hz4, hz5, p5⟩
 have hlast : ∀ {c0 : CoD} {x : List Int}, (bas ro mo wd sl cl ++ (hst ro [h0, h1, h2, h3, h4, h5, h6, h7, h8, hs] ++ x)) <+: numC c0 → x.length < (if ro = 2 ∨ ro = 3 then 2 else 0) + 3 →
   (bas ro mo wd sl cl ++ (hst ro [h0, h1, h2, h3, h4, h5, h6, h7, h8, hs] ++ x)).length < (numC c0).length := fun hh hx =>
  lt_bas hh (by
   simp only [List.length_append, hst_len, List.length_cons, List.length_nil]
   by_cases q : ro = 1 ∨ ro = 3 <;> simp only [q, if_true, if_false] <;> omega)
 refine ⟨fun l' a' er' b' s' ro' mo' wd' sl' rows g0 g1 g2 g3 g4 g5 g6 g7 g8 gs rm ha c0 c1 c2 => l' = bR l ∧ s' = s ∧ ro' = ro ∧ mo' = mo ∧ wd' = wd ∧ sl' = sl ∧ rows = cR cl ∧ (g0 = h0 ∧ g1 = h1 ∧ g2 = h2 ∧ g3 = h3 ∧ g4 = h4 ∧ g5 = h5 ∧ g6 = h6 ∧ g7 = h7 ∧ g8 = h8 ∧ gs = hs) ∧
   (ro ≠ 2 → ro ≠ 3 → rm = 0 ∧ ha = 0) ∧ PS l a er b s (bas ro mo wd sl cl ++ (hst ro [h0, h1, h2, h3, h4, h5, h6, h7, h8, hs] ++ bck ro [rm, ha])) a' er' b',
  fun _ _ _ _ _ _ _ _ _ _ _ _ _ _ _ _ _ _ _ _ _ _ _ _ _ => 0, ifB_intro (fun e => ?_) (fun e => ?_), ?_⟩
 ·simp at e
  refine Cl.ofQ (num_fn l a5 er5 b5 hl hb) ?_
  rintro r ⟨v, a6, er6, b6, rfl, n6⟩
  refine ⟨_, _, _, _, _, rfl, Cl.ofQ (num_fn l a6 er6 b6 hl hb) ?_⟩
  rintro r ⟨v2, a7, er7, b7, rfl, n7⟩
  have p6 := p5.num n6 (fun c0 hs hh => by have := hlast (x := []) (by simpa using hh) (by simp); simpa using this)
  have p7 := p6.num n7 (fun c0 hs hh => by have := hlast (x := [v]) (by simpa using hh) (by rw [if_pos e]; simp); simpa using this)
  refine ⟨_, _, _, _, _, rfl, rfl, rfl, rfl, rfl, rfl, rfl, rfl, rfl, ⟨rfl, rfl, rfl, rfl, rfl, rfl, rfl, rfl, rfl, rfl⟩, fun q1 q2 => (e.elim q1 q2).elim, ?_⟩
  have : bck ro [v, v2] = [v] ++ [v2] := by unfold bck; rw [if_pos e]; rfl
  rw [this, ← List.append_assoc, ← List.append_assoc]
  exact p7
 ·simp at e
  refine ⟨rfl, rfl, rfl, rfl, rfl, rfl, rfl, rfl, ⟨rfl, rfl, rfl, rfl, rfl, rfl, rfl, rfl, rfl, rfl⟩, fun _ _ => hz4, ?_⟩
  have : bck ro [rm, ha] = [] := by unfold bck; rw [if_neg (by omega)]
  rw [this, List.append_nil]
  exact p5
 rintro _ a6 er6 b6 s ro mo wd sl _ h0 h1 h2 h3 h4 h5 h6 h7 h8 hs rm ha c0 c1 c2 ⟨rfl, rfl, rfl, rfl, rfl, rfl, rfl, ⟨rfl, rfl, rfl, rfl, rfl, rfl, rfl, rfl, rfl, rfl⟩, hz6, p6⟩
 refine ⟨fun x l' a' er' b' s' ro' mo' wd' sl' rows g0 g1 g2 g3 g4 g5 g6 g7 g8 gs rm' ha' k0 k1 k2 => 0 ≤ x ∧ x ≤ 3 ∧ l' = bR l ∧ s' = s ∧ ro' = ro ∧ mo' = mo ∧ wd' = wd ∧ sl' = sl ∧ rows = cR cl ∧ (g0 = h0 ∧ g1 = h1 ∧ g2 = h2 ∧ g3 = h3 ∧ g4 = h4 ∧ g5 = h5 ∧ g6 = h6 ∧ g7 = h7 ∧ g8 = h8 ∧ gs = hs) ∧
   (rm' = rm ∧ ha' = ha) ∧ PS l a er b s ((bas ro mo wd sl cl ++ (hst ro [h0, h1, h2, h3, h4, h5, h6, h7, h8, hs] ++ bck ro [rm, ha])) ++ [k0, k1, k2].take x.toNat) a' er' b',
  fun x _ _ _ _ _ _ _ _ _ _ _ _ _ _ _ _ _ _ _ _ _ _ _ _ _ => (3 - x).toNat, ⟨by omega, by omega, rfl, rfl, rfl, rfl, rfl, rfl, rfl, ⟨rfl, rfl, rfl, rfl, rfl, rfl, rfl, rfl, rfl, rfl⟩, ⟨rfl, rfl⟩, by simpa using p6⟩, ?_⟩
 rintro x _ a7 er7 b7 s ro mo wd sl _ h0 h1 h2 h3 h4 h5 h6 h7 h8 hs rm ha k0 k1 k2 ⟨x0, x3, rfl, rfl, rfl, rfl, rfl, rfl, rfl, ⟨rfl, rfl, rfl, rfl, rfl, rfl, rfl, rfl, rfl, rfl⟩, ⟨rfl, rfl⟩, p7⟩
 refine ifB_intro (fun hx => ?_) (fun hx => ?_)
 ·simp at hx
  refine Cl.ofQ (num_fn l a7 er7 b7 hl hb) ?_
  rintro r ⟨v, a8, er8, b8, rfl, n8⟩
  have p8 := p7.num n8 (fun c0 hs' hh => by
   have := lt_bas (x := (hst ro [h0, h1, h2, h3, h4, h5, h6, h7, h8, hs] ++ bck ro [rm, ha]) ++ [k0, k1, k2].take x.toNat) (by simpa using hh) (by
    simp only [List.length_append, hst_len, bck_len, List.length_take, List.length_cons, List.length_nil]
    by_cases q : ro = 1 ∨ ro = 3 <;> by_cases q2 : ro = 2 ∨ ro = 3 <;> simp only [q, q2, if_true, if_false] <;> omega)
   simpa using this)
  have w : wadd IntKind.i64 x 1 = x + 1 := wadd_i64 (by omega) (by omega)
  rw [w]
  have step : ∀ (k : Nat) (f0 f1 f2 : Int), x = (k : Int) → [f0, f1, f2].take (k + 1) = [k0, k1, k2].take k ++ [v] →
    (0 ≤ x + 1 ∧ x + 1 ≤ 3 ∧ bR l = bR l ∧ s = s ∧ ro = ro ∧ mo = mo ∧ wd = wd ∧ sl = sl ∧ cR cl = cR cl ∧ (h0 = h0 ∧ h1 = h1 ∧ h2 = h2 ∧ h3 = h3 ∧ h4 = h4 ∧ h5 = h5 ∧ h6 = h6 ∧ h7 = h7 ∧ h8 = h8 ∧ hs = hs) ∧
     (rm = rm ∧ ha = ha) ∧ PS l a er b s ((bas ro mo wd sl cl ++ (hst ro [h0, h1, h2, h3, h4, h5, h6, h7, h8, hs] ++ bck ro [rm, ha])) ++ [f0, f1, f2].take (x + 1).toNat) a8 er8 b8) ∧ Nat.le (Nat.succ (3 - (x + 1)).toNat) (3 - x).toNat := by
   intro k f0 f1 f2 hk hf
   refine ⟨⟨by omega, by omega, rfl, rfl, rfl, rfl, rfl, rfl, rfl, ⟨rfl, rfl, rfl, rfl, rfl, rfl, rfl, rfl, rfl, rfl⟩, ⟨rfl, rfl⟩, ?_⟩, by show Nat.succ _ ≤ _; omega⟩
   have e1 : (x + 1).toNat = k + 1 := by omega
   have e2 : x.toNat = k := by omega
   rw [e1, hf, ← List.append_assoc, ← e2]
   exact p8
  exact ⟨_, _, _, _, _, rfl, ⟨x0, hx⟩, fun e => ⟨rfl, step 0 _ _ _ e rfl⟩, fun e => ⟨rfl, step 1 _ _ _ e rfl⟩, fun e => ⟨rfl, step 2 _ _ _ e rfl⟩, trivial⟩
 ·simp at hx
  have : x = 3 := by omega
  subst this
  refine ⟨⟨s, ro, mo, wd, sl, cl, h0, h1, h2, h3, h4, h5, h6, h7, h8, hs, rm, ha, k0, k1, k2⟩, _, _, _, rfl, CR.ofPS ?_ ⟨hcz, hz5, hz6⟩ (by omega) hcl⟩
  have : numC ⟨s, ro, mo, wd, sl, cl, h0, h1, h2, h3, h4, h5, h6, h7, h8, hs, rm, ha, k0, k1, k2⟩ = (bas ro mo wd sl cl ++ (hst ro [h0, h1, h2, h3, h4, h5, h6, h7, h8, hs] ++ bck ro [rm, ha])) ++ [k0, k1, k2].take (3 : Int).toNat := by
   simp [numC]
  rw [this]
  exact p7


abbrev st0 : StD := ⟨[], 0, 0⟩
def DSt (l : List Int) (d : StD) (e : Int) : Prop := (d.P ∧ encS d = l ∧ e = 0) ∨ ((∀ d0 : StD, d0.P → encS d0 ≠ l) ∧ d = st0 ∧ e = 11)

theorem P_shp {d : StD} (h : d.P) : ∀ c ∈ d.cs, shp c := fun c hc => (shp_of (h.2.1 c hc)).1

theorem take_step {l : List CoD} {cs : List CoD} {x : Nat} (hx : x < l.length) (h : cs = l.take x) : cs ++ [l[x]] = l.take (x + 1) := by
 rw [h]; simp

theorem rdec_fn (l : List Int) (hl : l.length ≤ 100000) (hb : Byts l) : Ct Tryz.prog 78 {} [SL 1 (bR l)] (fun r => ∃ d e, r = [StD.sv d, I e] ∧ DSt l d e) := by
 refine rdec_nf _ _ (Cl.of (start_fn l) ⟨_, _, _, rfl, Cl.ofQ (num_fn l 0 0 false hl hb) ?_⟩)
 rintro r ⟨k, a1, er1, b1, rfl, n1⟩
 have g0 : Gd l [] 0 0 false := ⟨rfl, rfl, rfl, List.nil_prefix⟩
 have none : (∀ d0 : StD, d0.P → encS d0 ≠ l) → ∃ d e, ([SV.agg [SL 21 [], I (0), I (0)], I 11] : List SV) = [StD.sv d, I e] ∧ DSt l d e := fun h => ⟨st0, 11, rfl, .inr ⟨h, rfl, rfl⟩⟩
 have hk : ∀ d0 : StD, d0.P → encS d0 = l → b1 = false ∧ k = d0.cs.length := by
  intro d0 hp he
  refine n1.cmp [] d0.cs.length ⟨by omega, by have := hp.1.1; omega⟩ g0 ?_
  rw [← he]; exact ⟨d0.cs.flatMap encC ++ (leb d0.q.toNat ++ leb d0.t.toNat), by simp [encS]⟩
 have k0 := n1.rg
 unfold rng at k0
 refine ⟨_, _, _, _, _, rfl, ifB_intro (fun h => ?_) (fun h => ?_)⟩
 ·simp at h
  exact none fun d0 hp he => by have := (hk d0 hp he).2; have := hp.1.1; omega
 simp at h
 refine ⟨fun x l' a' er' b' rows q t => l' = bR l ∧ 0 ≤ x ∧ x ≤ k ∧ ∃ cs, rows = coR cs ∧ (cs.length : Int) = x ∧ (∀ c ∈ cs, c.cl.length ≤ 16) ∧
   (b' = false → (∀ c ∈ cs, shp c) ∧ Gd l (leb k.toNat ++ cs.flatMap encC) a' er' b') ∧ (∀ d0 : StD, d0.P → encS d0 = l → b' = false ∧ cs = d0.cs.take x.toNat),
  fun x _ _ _ _ _ _ _ => (k - x).toNat, ⟨rfl, by omega, by omega, [], rfl, rfl, by simp, fun e => ⟨by simp, ?_⟩, fun d0 hp he => ⟨(hk d0 hp he).1, by simp⟩⟩, ?_⟩
 ·have := (n1.snd e).2 [] g0
  simpa using this
 rintro x _ a2 er2 b2 _ q t ⟨rfl, x0, x1, cs, rfl, hcs, hcl, hsn, hcm⟩
 refine ifB_intro (fun hx => ?_) (fun hx => ?_)
 ·simp at hx
  refine Cl.ofQ (rcomp_fn l a2 er2 b2 hl hb) ?_
  rintro r ⟨c, a3, er3, b3, rfl, hc⟩
  have w : wadd IntKind.i64 x 1 = x + 1 := wadd_i64 (by omega) (by omega)
  rw [w]
  refine ⟨_, _, _, _, _, _, _, _, _, _, _, _, _, _, _, _, _, _, _, _, _, _, _, _, _, rfl, ?_, rfl, ⟨rfl, by omega, by omega, cs ++ [c], by simp [rapp], by simp; omega, ?_, ?_, ?_⟩, ?_⟩
  ·simp [lsum, rlen]; omega
  ·intro c' hc'
   rcases List.mem_append.1 hc' with h1 | h1
   ·exact hcl c' h1
   ·simp at h1; rw [h1]; exact hc.cl
  ·intro e
   obtain ⟨e1, e2, e3⟩ := hc.snd e
   obtain ⟨f1, f2⟩ := hsn e2
   refine ⟨fun c' hc' => ?_, ?_⟩
   ·rcases List.mem_append.1 hc' with h1 | h1
    ·exact f1 c' h1
    ·simp at h1; rw [h1]; exact e1
   ·have := e3 _ f2
    simpa using this
  ·intro d0 hp he
   obtain ⟨e1, e2⟩ := hcm d0 hp he
   have hkl := (hk d0 hp he).2
   have hlt : x.toNat < d0.cs.length := by omega
   obtain ⟨f1, f2⟩ := hsn e1
   have hpre : (leb k.toNat ++ cs.flatMap encC) ++ encC d0.cs[x.toNat] <+: l := by
    have : d0.cs = cs ++ (d0.cs[x.toNat] :: d0.cs.drop (x.toNat + 1)) := by
     rw [e2]
     conv => lhs; rw [← List.take_append_drop x.toNat d0.cs]
     congr 1
     exact List.drop_eq_getElem_cons hlt
    have hk2 : k.toNat = d0.cs.length := by omega
    refine ⟨(d0.cs.drop (x.toNat + 1)).flatMap encC ++ (leb d0.q.toNat ++ leb d0.t.toNat), ?_⟩
    have hfm : d0.cs.flatMap encC = cs.flatMap encC ++ (encC d0.cs[x.toNat] ++ (d0.cs.drop (x.toNat + 1)).flatMap encC) := by
     conv => lhs; rw [this]
     rw [List.flatMap_append, List.flatMap_cons]
    rw [← he, encS, ← hk2, hfm]
    simp only [List.append_assoc]
   obtain ⟨g1, g2⟩ := hc.cmp _ _ (P_shp hp _ (List.getElem_mem hlt)) f2 hpre
   refine ⟨g1, ?_⟩
   rw [g2, show (x + 1).toNat = x.toNat + 1 by omega]
   exact take_step hlt e2
  ·show Nat.succ (k - (x + 1)).toNat ≤ (k - x).toNat; omega
 ·simp at hx
  have hxk : x = k := by omega
  subst hxk
  refine Cl.ofQ (num_fn l a2 er2 b2 hl hb) ?_
  rintro r ⟨q', a3, er3, b3, rfl, n3⟩
  refine ⟨_, _, _, _, _, rfl, Cl.ofQ (num_fn l a3 er3 b3 hl hb) ?_⟩
  rintro r ⟨t', a4, er4, b4, rfl, n4⟩
  -- what any state's bytes come to
  have all : ∀ d0 : StD, d0.P → encS d0 = l → b4 = false ∧ cs = d0.cs ∧ q' = d0.q ∧ t' = d0.t ∧ Gd l l a4 er4 b4 := by
   intro d0 hp he
   obtain ⟨e1, e2⟩ := hcm d0 hp he
   have hkl := (hk d0 hp he).2
   obtain ⟨f1, f2⟩ := hsn e1
   have e3 : cs = d0.cs := by rw [e2, List.take_of_length_le (by omega)]
   have hl1 : l = ((leb x.toNat ++ cs.flatMap encC) ++ leb d0.q.toNat) ++ leb d0.t.toNat := by
    rw [← he, encS, e3, hkl]; simp
   obtain ⟨P0, _⟩ := hp
   obtain ⟨g1, g2⟩ := n3.cmp _ d0.q ⟨P0.2.1, by omega⟩ f2 ⟨leb d0.t.toNat, hl1.symm⟩
   have s3 := (n3.snd g1).2 _ f2
   rw [g2] at s3
   obtain ⟨k1, k2⟩ := n4.cmp _ d0.t ⟨by omega, by omega⟩ s3 ⟨[], by rw [List.append_nil]; exact hl1.symm⟩
   have s4 := (n4.snd k1).2 _ s3
   rw [k2, ← hl1] at s4
   exact ⟨k1, e3, g2, k2, s4⟩
  refine ⟨_, _, _, _, _, rfl, ifB_intro (fun hb4 => ?_) (fun hb4 => ?_)⟩
  ·exact none fun d0 hp he => by rw [(all d0 hp he).1] at hb4; cases hb4
  refine Cl.of (left_fn l a4 er4 hl) ⟨_, rfl, ifB_intro (fun hlf => ?_) (fun hlf => ?_)⟩
  ·refine none fun d0 hp he => ?_
   obtain ⟨_, _, _, _, h1, h2, h3, h4⟩ := all d0 hp he
   simp at hlf
   omega
  refine Cl.of (sright_fn ⟨cs, q', t'⟩) ⟨_, rfl, ifB_intro (fun hr => ?_) (fun hr => ?_)⟩
  ·refine none fun d0 hp he => ?_
   obtain ⟨_, e1, e2, e3, _⟩ := all d0 hp he
   simp at hr
   apply hr
   have : (⟨cs, q', t'⟩ : StD) = d0 := by rw [e1, e2, e3]
   rw [this]; exact hp
  ·simp at hr
   refine ⟨⟨cs, q', t'⟩, 0, rfl, .inl ⟨hr, ?_, rfl⟩⟩
   obtain ⟨u1, u2⟩ := n4.snd hb4
   obtain ⟨v1, v2⟩ := n3.snd u1
   obtain ⟨w1, w2⟩ := hsn v1
   obtain ⟨y1, y2, y3, y4⟩ := u2 _ (v2 _ w2)
   simp at hlf
   have hr4 : rgtC l a4 er4 = true := by
    have := y4.length_le
    simp only [rgtC, decide_eq_true_eq]; omega
   have hlen := hlf hr4
   have hfull := y4.eq_of_length (by omega)
   rw [← hfull, encS, ← hcs]
   simp


abbrev nI (l : List Int) : List (List SV) := l.map fun n => [I n]
theorem rget_nI {l : List Int} {i : Int} (h0 : 0 ≤ i) (h1 : i < l.length) : rget (nI l) i = [I (l[i.toNat]'(by omega))] := by
 have : i.toNat < l.length := by omega
 simp [rget, this]

theorem enc_step {l : List Int} {x : Nat} (hx : x < l.length) : encN (l.take (x + 1)) = encN (l.take x) ++ leb (l[x]).toNat := by
 rw [← encN_one, ← encN_app]; simp

theorem rput_fn (l ns : List Int) (hr : ∀ n ∈ ns, rng n) (hl : l.length + 10 * ns.length ≤ 100000) : Ct Tryz.prog 134 {} [SL 1 (bR l), SL 1 (nI ns)] (fun r => r = [SL 1 (bR (l ++ encN ns))]) := by
 refine rput_nf _ _ _ ⟨fun l' x => 0 ≤ x ∧ x ≤ ns.length ∧ l' = bR (l ++ encN (ns.take x.toNat)), fun _ x => (ns.length - x).toNat, ⟨by omega, by omega, by simp [encN]⟩, ?_⟩
 rintro _ x ⟨x0, x1, rfl⟩
 refine ifB_intro (fun h => ?_) (fun h => ?_)
 ·simp at h
  have hlt : x.toNat < ns.length := by omega
  have hn := hr ns[x.toNat] (List.getElem_mem _)
  have w : wadd IntKind.i64 x 1 = x + 1 := wadd_i64 (by omega) (by omega)
  have hlen : (encN (ns.take x.toNat)).length ≤ 10 * x.toNat := by
   have := encN_len (l := ns.take x.toNat) (fun n h => hr n (List.mem_of_mem_take h))
   simp at this; omega
  refine ⟨⟨x0, by simpa using h⟩, _, rget_nI x0 (by omega), ?_⟩
  rw [wcvU64 hn.1 (by have := hn.2; omega), w]
  refine Cl.of (putUint_fn _ _ hn.1 (by have := hn.2; omega) (by simp; omega)) ⟨_, rfl, rfl, ⟨by omega, by omega, ?_⟩, ?_⟩
  ·rw [show (x + 1).toNat = x.toNat + 1 by omega, enc_step hlt]; simp
  ·show Nat.succ (ns.length - (x + 1)).toNat ≤ (ns.length - x).toNat; omega
 ·simp at h
  rw [List.take_of_length_le (by omega)]

theorem putC_fn (l : List Int) (c : CoD) (hc : shp c) (hl : l.length ≤ 90000) : Ct Tryz.prog 135 {} [SL 1 (bR l), CoD.sv c] (fun r => r = [SL 1 (bR (l ++ encC c))]) := by
 have hn := hc.n
 have hnm := hc.nm
 have hcl := hc.cl
 have hleb : (leb c.nm.size).length ≤ 10 := leb_small (by omega)
 have hN := encN_len hn
 have hN2 : (numC c).length ≤ 52 := by
  simp only [numC, List.length_append, bas_len, hst_len, bck_len, List.length_cons, List.length_nil]
  split <;> split <;> split <;> omega
 -- some numbers more
 obtain ⟨p0, hp0e⟩ : ∃ p0, p0 = l ++ leb c.nm.size ++ txB c.nm := ⟨_, rfl⟩
 have hp0 : p0.length ≤ 90034 := by rw [hp0e]; simp [txB_len]; omega
 have put : ∀ (a b : List Int), (∀ n ∈ a ++ b, rng n) → a.length + b.length ≤ 60 → Ct Tryz.prog 134 {} [SL 1 (bR (p0 ++ encN a)), SL 1 (nI b)] (fun r => r = [SL 1 (bR (p0 ++ encN (a ++ b)))]) := by
  intro a b h1 h2
  have h3 := encN_len (l := a) fun n h => h1 n (by simp [h])
  have := rput_fn (p0 ++ encN a) b (fun n h => h1 n (by simp [h])) (by simp; omega)
  rwa [List.append_assoc, ← encN_app] at this
 have hb : ∀ n ∈ bas c.ro c.mo c.wd c.sl c.cl, rng n := fun n h => hn n (by simp [numC, h])
 have hh : ∀ n ∈ hst c.ro [c.h0, c.h1, c.h2, c.h3, c.h4, c.h5, c.h6, c.h7, c.h8, c.hs], rng n := fun n h => hn n (by simp only [numC, List.mem_append]; exact .inr (.inl h))
 have hk : ∀ n ∈ bck c.ro [c.rm, c.ha], rng n := fun n h => hn n (by simp only [numC, List.mem_append]; exact .inr (.inr (.inl h)))
 have h3 : ∀ n ∈ [c.c0, c.c1, c.c2], rng n := fun n h => hn n (by simp only [numC, List.mem_append]; exact .inr (.inr (.inr h)))
 have hro : rng c.ro := hn _ (by simp [numC, bas])
 have hmo : rng c.mo := hn _ (by simp [numC, bas])
 have hbl : (bas c.ro c.mo c.wd c.sl c.cl).length ≤ 37 := by rw [bas_len]; split <;> omega
 have mem : ∀ {a b : List Int}, (∀ n ∈ a, rng n) → (∀ n ∈ b, rng n) → ∀ n ∈ a ++ b, rng n := fun h1 h2 n h => (List.mem_append.1 h).elim (h1 n) (h2 n)
 have q0 := put [] [c.ro, c.mo] (by simp; exact ⟨hro, hmo⟩) (by simp)
 rw [encN_nil, List.append_nil] at q0
 -- the last three
 have last : ∀ x : List Int, (∀ n ∈ x, rng n) → x.length ≤ 50 → bas c.ro c.mo c.wd c.sl c.cl ++ (hst c.ro [c.h0, c.h1, c.h2, c.h3, c.h4, c.h5, c.h6, c.h7, c.h8, c.hs] ++ bck c.ro [c.rm, c.ha]) = x →
   Cl Tryz.prog 134 sP ([SL 1 (bR (p0 ++ encN x)), SL 1 ([[I c.c0], [I c.c1], [I c.c2]])]) (fun (rs5 : List SV) => ∃ l6 : List (List SV), (rs5 = [SL 1 l6]) ∧ ([SL 1 l6] = [SL 1 (bR (l ++ encC c))])) := by
  intro x hx hx2 e
  refine Cl.of (put x [c.c0, c.c1, c.c2] (mem hx h3) (by simp; omega)) ⟨_, rfl, ?_⟩
  have : encC c = leb c.nm.size ++ (txB c.nm ++ encN (x ++ [c.c0, c.c1, c.c2])) := by rw [encC, numC, ← e]; simp
  rw [this, hp0e]; simp
 -- the bucket
 have bkt : ∀ x : List Int, (∀ n ∈ x, rng n) → x.length ≤ 47 → bas c.ro c.mo c.wd c.sl c.cl ++ hst c.ro [c.h0, c.h1, c.h2, c.h3, c.h4, c.h5, c.h6, c.h7, c.h8, c.hs] = x →
   ifB (bpick (ieq c.ro 2) true (ieq c.ro 3)) (Cl Tryz.prog 134 sP ([SL 1 (bR (p0 ++ encN x)), SL 1 ([[I c.rm], [I c.ha]])]) (fun (rs4 : List SV) => ∃ l5 : List (List SV), (rs4 = [SL 1 l5]) ∧
    (Cl Tryz.prog 134 sP ([SL 1 l5, SL 1 ([[I c.c0], [I c.c1], [I c.c2]])]) (fun (rs5 : List SV) => ∃ l6 : List (List SV), (rs5 = [SL 1 l6]) ∧ ([SL 1 l6] = [SL 1 (bR (l ++ encC c))])))))
    (Cl Tryz.prog 134 sP ([SL 1 (bR (p0 ++ encN x)), SL 1 ([[I c.c0], [I c.c1], [I c.c2]])]) (fun (rs4 : List SV) => ∃ l5 : List (List SV), (rs4 = [SL 1 l5]) ∧ ([SL 1 l5] = [SL 1 (bR (l ++ encC c))]))) := by
  intro x hx hx2 e
  refine ifB_intro (fun h => ?_) (fun h => ?_)
  ·simp at h
   have hbk : bck c.ro [c.rm, c.ha] = [c.rm, c.ha] := by unfold bck; rw [if_pos h]
   rw [hbk] at hk
   refine Cl.of (put x [c.rm, c.ha] (mem hx hk) (by simp; omega)) ⟨_, rfl, last _ (mem hx hk) (by simp; omega) ?_⟩
   rw [hbk, ← e]; simp
  ·simp at h
   refine last x hx (by omega) ?_
   have hbk : bck c.ro [c.rm, c.ha] = [] := by unfold bck; rw [if_neg (by omega)]
   rw [hbk, ← e]; simp
 refine putc_nf _ _ _ _ _ _ _ _ _ _ _ _ _ _ _ _ _ _ _ _ _ _ _ (Cl.of (putText_fn l c.nm (by omega) (by omega)) ⟨_, rfl, ?_⟩)
 rw [← hp0e]
 refine Cl.of q0 ⟨_, rfl, fun l' => l' = bR (p0 ++ encN (bas c.ro c.mo c.wd c.sl c.cl)), fun _ => 0, ifB_intro (fun e => ?_) (fun e => ?_), ?_⟩
 ·simp at e
  have hbe : bas c.ro c.mo c.wd c.sl c.cl = [c.ro, c.mo, c.wd, c.sl, (c.cl.length : Int)] ++ flat c.cl := by simp [bas, e]
  have hrl : rlen (cR c.cl) = c.cl.length := by simp [rlen]
  have h5 : ∀ n ∈ [c.ro, c.mo, c.wd, c.sl, (c.cl.length : Int)], rng n := fun n h => hb n (by rw [hbe]; simp only [List.mem_append]; exact .inl h)
  have h2 : ∀ n ∈ flat c.cl, rng n := fun n h => hb n (by rw [hbe]; simp only [List.mem_append]; exact .inr h)
  rw [hrl]
  refine Cl.of (put [c.ro, c.mo] [c.wd, c.sl, (c.cl.length : Int)] (fun n h => h5 n (by simpa using h)) (by simp)) ⟨_, rfl,
   fun l' x => 0 ≤ x ∧ x ≤ c.cl.length ∧ l' = bR (p0 ++ encN ([c.ro, c.mo, c.wd, c.sl, (c.cl.length : Int)] ++ flat (c.cl.take x.toNat))), fun _ x => (c.cl.length - x).toNat, ⟨by omega, by omega, by simp [flat]⟩, ?_⟩
  rintro _ x ⟨x0, x1, rfl⟩
  refine ifB_intro (fun h => ?_) (fun h => ?_)
  ·simp at h
   have hlt : x.toNat < c.cl.length := by omega
   have w : wadd IntKind.i64 x 1 = x + 1 := wadd_i64 (by omega) (by omega)
   have hf : flat (c.cl.take (x.toNat + 1)) = flat (c.cl.take x.toNat) ++ [c.cl[x.toNat].1, c.cl[x.toNat].2] := by
    rw [List.take_succ_eq_append_getElem hlt, flat_app]; simp [flat]
   have hsub : ∀ n ∈ flat (c.cl.take (x.toNat + 1)), rng n := fun n h => h2 n (by
    simp only [flat, List.mem_flatMap] at h ⊢
    obtain ⟨p, hp, hn⟩ := h
    exact ⟨p, List.mem_of_mem_take hp, hn⟩)
   rw [w]
   refine ⟨⟨x0, by simpa using h⟩, _, _, rget_mapI (fun c : Int × Int => [I c.1, I c.2]) c.cl x x0 (by omega), ?_⟩
   refine Cl.of (put ([c.ro, c.mo, c.wd, c.sl, (c.cl.length : Int)] ++ flat (c.cl.take x.toNat)) [c.cl[x.toNat].1, c.cl[x.toNat].2] ?_ ?_) ⟨_, rfl, rfl, ⟨by omega, by omega, ?_⟩, ?_⟩
   ·rw [List.append_assoc, ← hf]; exact mem h5 hsub
   ·simp [flat_len]; omega
   ·rw [show (x + 1).toNat = x.toNat + 1 by omega, hf, List.append_assoc]
   ·show Nat.succ (c.cl.length - (x + 1)).toNat ≤ (c.cl.length - x).toNat; omega
  ·simp at h
   refine ⟨rfl, ?_⟩
   rw [hbe, List.take_of_length_le (by omega)]
 ·simp at e
  refine ⟨rfl, ?_⟩
  have hbe : bas c.ro c.mo c.wd c.sl c.cl = [c.ro, c.mo] := by simp [bas, e]
  rw [hbe]; rfl
 ·rintro _ rfl
  refine ifB_intro (fun e => ?_) (fun e => ?_)
  ·simp at e
   have hhe : hst c.ro [c.h0, c.h1, c.h2, c.h3, c.h4, c.h5, c.h6, c.h7, c.h8, c.hs] = [c.h0, c.h1, c.h2, c.h3, c.h4, c.h5, c.h6, c.h7, c.h8] ++ [c.hs] := by unfold hst; rw [if_pos e]; rfl
   have hh' := hh
   rw [hhe] at hh'
   have ha : ∀ n ∈ bas c.ro c.mo c.wd c.sl c.cl ++ [c.h0, c.h1, c.h2, c.h3, c.h4, c.h5, c.h6, c.h7, c.h8], rng n := mem hb fun n h => hh' n (List.mem_append.2 (.inl h))
   refine Cl.of (put _ [c.h0, c.h1, c.h2, c.h3, c.h4, c.h5, c.h6, c.h7, c.h8] ha (by simp; omega)) ⟨_, rfl, ?_⟩
   refine Cl.of (put _ [c.hs] (mem ha fun n h => hh' n (List.mem_append.2 (.inr h))) (by simp; omega)) ⟨_, rfl, ?_⟩
   refine bkt _ (mem ha fun n h => hh' n (List.mem_append.2 (.inr h))) (by simp; omega) ?_
   rw [hhe]; simp
  ·simp at e
   refine bkt _ hb (by omega) ?_
   have : hst c.ro [c.h0, c.h1, c.h2, c.h3, c.h4, c.h5, c.h6, c.h7, c.h8, c.hs] = [] := by unfold hst; rw [if_neg (by omega)]
   rw [this, List.append_nil]

theorem take_succC {l : List CoD} {x : Nat} (hx : x < l.length) : (l.take (x + 1)).flatMap encC = (l.take x).flatMap encC ++ encC l[x] := by
 rw [List.take_succ_eq_append_getElem hx, List.flatMap_append]; simp

def encI (d : StD) : List Int × Int := if d.P then (encS d, 0) else ([], 1)

theorem renc_fn (d : StD) : Ct Tryz.prog 70 {} [d.sv] (fun r => r = [SL 1 (bR (encI d).1), I (encI d).2]) := by
 refine renc_nf _ _ _ _ (Cl.of (sright_fn d) ⟨_, rfl, ifB_intro (fun h => ?_) (fun h => ?_)⟩)
 ·simp at h
  simp [encI, h]
 simp at h
 have hlen := h.1.1
 have hsh := P_shp h
 have q0 := rput_fn [] [(d.cs.length : Int)] (by simp; unfold rng; omega) (by simp)
 simp only [List.nil_append] at q0
 have hrl : rlen (coR d.cs) = d.cs.length := by simp [rlen]
 rw [hrl]
 refine Cl.of q0 ⟨_, rfl, fun l' x => 0 ≤ x ∧ x ≤ d.cs.length ∧ l' = bR (leb d.cs.length ++ (d.cs.take x.toNat).flatMap encC), fun _ x => (d.cs.length - x).toNat, ⟨by omega, by omega, by simp [encN]⟩, ?_⟩
 have hleb : (leb d.cs.length).length ≤ 10 := leb_small (by omega)
 rintro _ x ⟨x0, x1, rfl⟩
 have hb : ((d.cs.take x.toNat).flatMap encC).length ≤ 600 * x.toNat := by
  have := flatC_len (l := d.cs.take x.toNat) fun c hc => hsh c (List.mem_of_mem_take hc)
  rw [List.length_take] at this; omega
 refine ifB_intro (fun hx => ?_) (fun hx => ?_)
 ·simp at hx
  have hlt : x.toNat < d.cs.length := by omega
  have w : wadd IntKind.i64 x 1 = x + 1 := wadd_i64 (by omega) (by omega)
  rw [w]
  refine ⟨⟨x0, by simpa using hx⟩, _, _, _, _, _, _, _, _, _, _, _, _, _, _, _, _, _, _, _, _, _, rget_mapI CoD.row d.cs x x0 (by omega), ?_⟩
  refine Cl.of (putC_fn _ d.cs[x.toNat] (hsh _ (List.getElem_mem _)) (by rw [List.length_append]; omega)) ⟨_, rfl, rfl, ⟨by omega, by omega, ?_⟩, ?_⟩
  ·rw [show (x + 1).toNat = x.toNat + 1 by omega, take_succC hlt]; simp
  ·show Nat.succ (d.cs.length - (x + 1)).toNat ≤ (d.cs.length - x).toNat; omega
 ·simp at hx
  have hP := h
  obtain ⟨P0, _⟩ := h
  have q1 := rput_fn (leb d.cs.length ++ (d.cs.take x.toNat).flatMap encC) [d.q, d.t] (by simp; unfold rng; omega) (by rw [List.length_append]; simp only [List.length_cons, List.length_nil]; omega)
  refine Cl.of q1 ⟨_, rfl, ?_⟩
  rw [List.take_of_length_le (by omega)]
  simp [encI, encS, encN, hP]


theorem lsum_ok {a b : List Int} (h : a.length + b.length ≤ 2147483648) : lsum (rlen (nI a)) (rlen (nI b)) ≤ 2147483648 := by simp [lsum, rlen]; omega

theorem rnums_fn (c : CoD) (hcl : c.cl.length ≤ 1000) : Ct Tryz.prog 144 {} [c.sv] (fun r => r = [SL 1 (nI (numC c))]) := by
 have hbl : (bas c.ro c.mo c.wd c.sl c.cl).length ≤ 2005 := by rw [bas_len]; split <;> omega
 have hhl : (hst c.ro [c.h0, c.h1, c.h2, c.h3, c.h4, c.h5, c.h6, c.h7, c.h8, c.hs]).length ≤ 10 := by rw [hst_len]; split <;> simp
 have hkl : (bck c.ro [c.rm, c.ha]).length ≤ 2 := by rw [bck_len]; split <;> simp
 have hrl : rlen (cR c.cl) = c.cl.length := by simp [rlen]
 refine rnums_nf _ _ _ _ _ _ _ _ _ _ _ _ _ _ _ _ _ _ _ _ _ _ ⟨fun l => l = nI (bas c.ro c.mo c.wd c.sl c.cl), fun _ => 0, ifB_intro (fun e => ?_) (fun e => ?_), ?_⟩
 ·simp at e
  have hbe : bas c.ro c.mo c.wd c.sl c.cl = [c.ro, c.mo, c.wd, c.sl, (c.cl.length : Int)] ++ flat c.cl := by simp [bas, e]
  rw [hrl]
  refine ⟨lsum_ok (a := [_, _]) (b := [_, _, _]) (by simp), fun l x => 0 ≤ x ∧ x ≤ c.cl.length ∧ l = nI ([c.ro, c.mo, c.wd, c.sl, (c.cl.length : Int)] ++ flat (c.cl.take x.toNat)), fun _ x => (c.cl.length - x).toNat, ⟨by omega, by omega, by simp [flat, rapp]⟩, ?_⟩
  rintro _ x ⟨x0, x1, rfl⟩
  refine ifB_intro (fun h => ?_) (fun h => ?_)
  ·simp at h
   have hlt : x.toNat < c.cl.length := by omega
   have w : wadd IntKind.i64 x 1 = x + 1 := wadd_i64 (by omega) (by omega)
   have hf : flat (c.cl.take (x.toNat + 1)) = flat (c.cl.take x.toNat) ++ [c.cl[x.toNat].1, c.cl[x.toNat].2] := by
    rw [List.take_succ_eq_append_getElem hlt, flat_app]; simp [flat]
   have hg := rget_mapI (fun c : Int × Int => [I c.1, I c.2]) c.cl x x0 (by omega)
   rw [w]
   refine ⟨⟨x0, h⟩, _, _, hg, ⟨x0, h⟩, _, _, hg, lsum_ok (b := [_, _]) (by simp [flat_len]; omega), rfl, ⟨by omega, by omega, ?_⟩, ?_⟩
   ·rw [show (x + 1).toNat = x.toNat + 1 by omega, hf]; simp [rapp]
   ·show Nat.succ (c.cl.length - (x + 1)).toNat ≤ (c.cl.length - x).toNat; omega
  ·simp at h
   refine ⟨rfl, ?_⟩
   rw [hbe, List.take_of_length_le (by omega)]
 ·simp at e
  refine ⟨rfl, ?_⟩
  have hbe : bas c.ro c.mo c.wd c.sl c.cl = [c.ro, c.mo] := by simp [bas, e]
  rw [hbe]; rfl
 rintro _ rfl
 refine ⟨fun l => l = nI (bas c.ro c.mo c.wd c.sl c.cl ++ hst c.ro [c.h0, c.h1, c.h2, c.h3, c.h4, c.h5, c.h6, c.h7, c.h8, c.hs]), fun _ => 0, ifB_intro (fun e => ?_) (fun e => ?_), ?_⟩
 ·simp at e
  refine ⟨fun l x => 0 ≤ x ∧ x ≤ 9 ∧ l = nI (bas c.ro c.mo c.wd c.sl c.cl ++ [c.h0, c.h1, c.h2, c.h3, c.h4, c.h5, c.h6, c.h7, c.h8].take x.toNat), fun _ x => (9 - x).toNat, ⟨by omega, by omega, by simp⟩, ?_⟩
  rintro _ x ⟨x0, x9, rfl⟩
  refine ifB_intro (fun h => ?_) (fun h => ?_)
  ·simp at h
   have w : wadd IntKind.i64 x 1 = x + 1 := wadd_i64 (by omega) (by omega)
   rw [w]
   have hb : (bas c.ro c.mo c.wd c.sl c.cl ++ [c.h0, c.h1, c.h2, c.h3, c.h4, c.h5, c.h6, c.h7, c.h8].take x.toNat).length ≤ 2020 := by rw [List.length_append, List.length_take]; simp only [List.length_cons, List.length_nil]; omega
   have step : ∀ (k : Nat) (v : Int), x = (k : Int) → [c.h0, c.h1, c.h2, c.h3, c.h4, c.h5, c.h6, c.h7, c.h8].take (k + 1) = [c.h0, c.h1, c.h2, c.h3, c.h4, c.h5, c.h6, c.h7, c.h8].take k ++ [v] →
     (0 ≤ x + 1 ∧ x + 1 ≤ 9 ∧ rapp (nI (bas c.ro c.mo c.wd c.sl c.cl ++ [c.h0, c.h1, c.h2, c.h3, c.h4, c.h5, c.h6, c.h7, c.h8].take x.toNat)) [[I v]] = nI (bas c.ro c.mo c.wd c.sl c.cl ++ [c.h0, c.h1, c.h2, c.h3, c.h4, c.h5, c.h6, c.h7, c.h8].take (x + 1).toNat)) ∧
      Nat.le (Nat.succ (9 - (x + 1)).toNat) (9 - x).toNat := by
    intro k v hk hf
    refine ⟨⟨by omega, by omega, ?_⟩, by show Nat.succ _ ≤ _; omega⟩
    rw [show (x + 1).toNat = k + 1 by omega, hf, show x.toNat = k by omega]
    simp [rapp]
   exact ⟨⟨x0, h⟩, fun e => ⟨lsum_ok (b := [_]) (by simp only [List.length_cons, List.length_nil]; omega), rfl, step 0 _ e rfl⟩, fun e => ⟨lsum_ok (b := [_]) (by simp only [List.length_cons, List.length_nil]; omega), rfl, step 1 _ e rfl⟩,
    fun e => ⟨lsum_ok (b := [_]) (by simp only [List.length_cons, List.length_nil]; omega), rfl, step 2 _ e rfl⟩, fun e => ⟨lsum_ok (b := [_]) (by simp only [List.length_cons, List.length_nil]; omega), rfl, step 3 _ e rfl⟩,
    fun e => ⟨lsum_ok (b := [_]) (by simp only [List.length_cons, List.length_nil]; omega), rfl, step 4 _ e rfl⟩, fun e => ⟨lsum_ok (b := [_]) (by simp only [List.length_cons, List.length_nil]; omega), rfl, step 5 _ e rfl⟩,
    fun e => ⟨lsum_ok (b := [_]) (by simp only [List.length_cons, List.length_nil]; omega), rfl, step 6 _ e rfl⟩, fun e => ⟨lsum_ok (b := [_]) (by simp only [List.length_cons, List.length_nil]; omega), rfl, step 7 _ e rfl⟩,
    fun e => ⟨lsum_ok (b := [_]) (by simp only [List.length_cons, List.length_nil]; omega), rfl, step 8 _ e rfl⟩, trivial⟩
  ·simp at h
   have : x = 9 := by omega
   subst this
   refine ⟨lsum_ok (b := [_]) (by rw [List.length_append]; simp; omega), rfl, ?_⟩
   have : hst c.ro [c.h0, c.h1, c.h2, c.h3, c.h4, c.h5, c.h6, c.h7, c.h8, c.hs] = [c.h0, c.h1, c.h2, c.h3, c.h4, c.h5, c.h6, c.h7, c.h8].take (9 : Int).toNat ++ [c.hs] := by unfold hst; rw [if_pos e]; rfl
   rw [this]; simp [rapp]
 ·simp at e
  refine ⟨rfl, ?_⟩
  have : hst c.ro [c.h0, c.h1, c.h2, c.h3, c.h4, c.h5, c.h6, c.h7, c.h8, c.hs] = [] := by unfold hst; rw [if_neg (by omega)]
  rw [this, List.append_nil]
 rintro _ rfl
 refine ⟨fun l => l = nI (bas c.ro c.mo c.wd c.sl c.cl ++ (hst c.ro [c.h0, c.h1, c.h2, c.h3, c.h4, c.h5, c.h6, c.h7, c.h8, c.hs] ++ bck c.ro [c.rm, c.ha])), fun _ => 0, ifB_intro (fun e => ?_) (fun e => ?_), ?_⟩
 ·simp at e
  refine ⟨lsum_ok (b := [_, _]) (by rw [List.length_append]; simp; omega), rfl, ?_⟩
  have : bck c.ro [c.rm, c.ha] = [c.rm, c.ha] := by unfold bck; rw [if_pos e]
  rw [this]; simp [rapp]
 ·simp at e
  refine ⟨rfl, ?_⟩
  have : bck c.ro [c.rm, c.ha] = [] := by unfold bck; rw [if_neg (by omega)]
  rw [this, List.append_nil]
 rintro _ rfl
 refine ⟨lsum_ok (b := [_, _, _]) (by rw [List.length_append, List.length_append]; simp; omega), ?_⟩
 simp [rapp, numC]

theorem rrenc_fn (d : StD) (h : d.P) : Ct Tryz.prog 75 {} [d.sv] (fun r => r = [SL 1 (bR (encS d))]) := by
 have hlen := h.1.1
 have hsh := P_shp h
 have hrl : rlen (coR d.cs) = d.cs.length := by simp [rlen]
 refine rrenc_nf _ _ _ _ ?_
 rw [hrl, wcvU64 (by omega) (by omega)]
 refine Cl.of (rputUint_fn [] (d.cs.length : Int) (by omega) (by omega) (by simp)) ⟨_, rfl, fun l' x => 0 ≤ x ∧ x ≤ d.cs.length ∧ l' = bR (leb d.cs.length ++ (d.cs.take x.toNat).flatMap encC), fun _ x => (d.cs.length - x).toNat, ⟨by omega, by omega, by simp⟩, ?_⟩
 have hleb : (leb d.cs.length).length ≤ 10 := leb_small (by omega)
 rintro _ x ⟨x0, x1, rfl⟩
 have hb : ((d.cs.take x.toNat).flatMap encC).length ≤ 600 * x.toNat := by
  have := flatC_len (l := d.cs.take x.toNat) fun c hc => hsh c (List.mem_of_mem_take hc)
  rw [List.length_take] at this; omega
 refine ifB_intro (fun hx => ?_) (fun hx => ?_)
 ·simp at hx
  have hlt : x.toNat < d.cs.length := by omega
  have w : wadd IntKind.i64 x 1 = x + 1 := wadd_i64 (by omega) (by omega)
  rw [w]
  have hg := rget_mapI CoD.row d.cs x x0 (by omega)
  have hc := hsh d.cs[x.toNat] (List.getElem_mem _)
  have hstep : (d.cs.take (x + 1).toNat).flatMap encC = (d.cs.take x.toNat).flatMap encC ++ encC d.cs[x.toNat] := by
   rw [show (x + 1).toNat = x.toNat + 1 by omega, take_succC hlt]
  obtain ⟨p0, hp0⟩ : ∃ p0, p0 = leb d.cs.length ++ (d.cs.take x.toNat).flatMap encC := ⟨_, rfl⟩
  have hp0l : p0.length ≤ 8000 := by rw [hp0, List.length_append]; omega
  rw [← hp0]
  have hfin : leb d.cs.length ++ (d.cs.take (x + 1).toNat).flatMap encC = p0 ++ encC d.cs[x.toNat] := by rw [hstep, hp0, List.append_assoc]
  generalize d.cs[x.toNat]'hlt = c at hg hc hfin
  have hnl := encN_len hc.n
  have hN2 : (numC c).length ≤ 52 := by
   have := hc.cl
   simp only [numC, List.length_append, bas_len, hst_len, bck_len, List.length_cons, List.length_nil]
   split <;> split <;> split <;> omega
  have hnm := hc.nm
  refine ⟨⟨x0, hx⟩, _, _, _, _, _, _, _, _, _, _, _, _, _, _, _, _, _, _, _, _, _, hg, ?_⟩
  refine Cl.of (rputText_fn p0 c.nm (by omega) (by omega)) ⟨_, rfl, ⟨x0, hx⟩, _, _, _, _, _, _, _, _, _, _, _, _, _, _, _, _, _, _, _, _, _, hg, ?_⟩
  have hleb2 : (leb c.nm.size).length ≤ 10 := leb_small (by omega)
  have hrl2 : rlen (nI (numC c)) = (numC c).length := by simp [rlen]
  refine Cl.of (rnums_fn c (by have := hc.cl; omega)) ⟨_, rfl, fun l' y => 0 ≤ y ∧ y ≤ (numC c).length ∧ l' = bR (p0 ++ leb c.nm.size ++ txB c.nm ++ encN ((numC c).take y.toNat)), fun _ y => ((numC c).length - y).toNat, ⟨by omega, by omega, by simp [encN]⟩, ?_⟩
  rintro _ y ⟨y0, y1, rfl⟩
  refine ifB_intro (fun hy => ?_) (fun hy => ?_)
  ·simp at hy
   have hlty : y.toNat < (numC c).length := by omega
   have hn := hc.n (numC c)[y.toNat] (List.getElem_mem _)
   have w2 : wadd IntKind.i64 y 1 = y + 1 := wadd_i64 (by omega) (by omega)
   have hle : (encN ((numC c).take y.toNat)).length ≤ 10 * y.toNat := by
    have := encN_len (l := (numC c).take y.toNat) (fun n h => hc.n n (List.mem_of_mem_take h))
    rw [List.length_take] at this; omega
   rw [w2]
   refine ⟨⟨y0, by rw [hrl2]; exact hy⟩, _, rget_nI y0 (by omega), ?_⟩
   rw [wcvU64 hn.1 (by have := hn.2; omega)]
   refine Cl.of (rputUint_fn _ _ hn.1 (by have := hn.2; omega) (by simp only [List.length_append, txB_len]; omega)) ⟨_, rfl, rfl, ⟨by omega, by omega, ?_⟩, ?_⟩
   ·rw [show (y + 1).toNat = y.toNat + 1 by omega, enc_step hlty]; simp
   ·show Nat.succ ((numC c).length - (y + 1)).toNat ≤ ((numC c).length - y).toNat; omega
  ·simp at hy
   refine ⟨rfl, ⟨by omega, by omega, ?_⟩, ?_⟩
   ·rw [hfin, List.take_of_length_le (by omega), encC]; simp
   ·show Nat.succ (d.cs.length - (x + 1)).toNat ≤ (d.cs.length - x).toNat; omega
 ·simp at hx
  obtain ⟨P0, _⟩ := h
  rw [wcvU64 P0.2.1 (by omega), wcvU64 P0.2.2.2.1 (by omega), List.take_of_length_le (by omega)]
  rw [List.take_of_length_le (by omega)] at hb
  have hq : (leb d.q.toNat).length ≤ 10 := leb_small (by omega)
  refine Cl.of (rputUint_fn _ _ P0.2.1 (by omega) (by rw [List.length_append]; omega)) ⟨_, rfl, Cl.of (rputUint_fn _ _ P0.2.2.2.1 (by omega) (by simp only [List.length_append]; omega)) ⟨_, rfl, ?_⟩⟩
  simp [encS]

end Go.Proofs.YtbocfphenkidnaaGreatDoor.Row

namespace Go.Proofs.YtbocfphenkidnaaGreatDoor.Row
open Go Go.Px Go.Proofs Cmp Go.Proofs.YtbocfphenkidnaaGreatDoor.St
set_option maxRecDepth 100000
set_option linter.unusedVariables false

theorem rrdec_nf (bs : LL) (Q : List SV → Prop) (h : Cl Tryz.prog 150 sP ([SV.agg [SL 1 bs, I ((0 : Int)), I ((0 : Int))], I 1]) (fun rs => ∃ l x, ∃ x1 l1, (rs = [SV.agg [SL 1 l, I x, I x1], SL 1 l1]) ∧ ((((0 : Int) ≤ 0) ∧ (0 < (rlen l1))) ∧ (∃ x2, (rget l1 0 = [I x2]) ∧ (ifB (ilt x2 0) (Q ([SV.agg ([SL 21 [], I ((0 : Int)), I ((0 : Int))]), B false])) ((((0 : Int) ≤ 0) ∧ (0 < (rlen l1))) ∧ (∃ x3, (rget l1 0 = [I x3]) ∧ (ifB (igt x3 12) (Q ([SV.agg ([SL 21 [], I ((0 : Int)), I ((0 : Int))]), B false])) (∃ Inv : Int → (LL) → Int → Int → (LL) → Int → Int → Prop, ∃ m : Int → (LL) → Int → Int → (LL) → Int → Int → Nat, (Inv 0 l x x1 [] ((0 : Int)) ((0 : Int))) ∧ (∀ x4 l2, ∀ x5 x6, ∀ l3 x7 x8, (Inv x4 l2 x5 x6 l3 x7 x8) → (((0 : Int) ≤ 0) ∧ (0 < (rlen l1))) ∧ (∃ x9, (rget l1 0 = [I x9]) ∧ (ifB (bpick (ilt x4 x9) (ieq x6 0) false) (Cl Tryz.prog 131 sP ([SV.agg [SL 1 l2, I x5, I x6], I 24]) (fun rs1 => ∃ l4 x10, ∃ x11 s, (rs1 = [SV.agg [SL 1 l4, I x10, I x11], S s]) ∧ (Cl Tryz.prog 150 sP ([SV.agg [SL 1 l4, I x10, I x11], I 2]) (fun rs2 => ∃ l5 x12, ∃ x13 l6, (rs2 = [SV.agg [SL 1 l5, I x12, I x13], SL 1 l6]) ∧ ((((0 : Int) ≤ 0) ∧ (0 < (rlen l6))) ∧ (∃ x14, (rget l6 0 = [I x14]) ∧ ((((0 : Int) ≤ 1) ∧ (1 < (rlen l6))) ∧ (∃ x15, (rget l6 1 = [I x15]) ∧ (∃ Inv1 : (LL) → (LL) → Int → Int → (LL) → Int → Int → ByteArray → Int → Int → Int → Int → (LL) → Int → Int → Int → Int → Int → Int → Int → Int → Int → Int → Int → Int → Int → Int → Int → Prop, ∃ m1 : (LL) → (LL) → Int → Int → (LL) → Int → Int → ByteArray → Int → Int → Int → Int → (LL) → Int → Int → Int → Int → Int → Int → Int → Int → Int → Int → Int → Int → Int → Int → Int → Nat, (ifB (ieq x14 1) (Cl Tryz.prog 150 sP ([SV.agg [SL 1 l5, I x12, I x13], I 3]) (fun rs3 => ∃ l7 x16, ∃ x17 l8, (rs3 = [SV.agg [SL 1 l7, I x16, I x17], SL 1 l8]) ∧ ((((0 : Int) ≤ 0) ∧ (0 < (rlen l8))) ∧ (∃ x18, (rget l8 0 = [I x18]) ∧ ((((0 : Int) ≤ 1) ∧ (1 < (rlen l8))) ∧ (∃ x19, (rget l8 1 = [I x19]) ∧ ((((0 : Int) ≤ 2) ∧ (2 < (rlen l8))) ∧ (∃ x20, (rget l8 2 = [I x20]) ∧ (ifB (ilt x20 0) (Q ([SV.agg ([SL 21 [], I ((0 : Int)), I ((0 : Int))]), B false])) ((((0 : Int) ≤ 2) ∧ (2 < (rlen l8))) ∧ (∃ x21, (rget l8 2 = [I x21]) ∧ (ifB (igt x21 16) (Q ([SV.agg ([SL 21 [], I ((0 : Int)), I ((0 : Int))]), B false])) (∃ Inv2 : (LL) → (LL) → Int → Int → Prop, ∃ m2 : (LL) → (LL) → Int → Int → Nat, ((((0 : Int) ≤ 2) ∧ (2 < (rlen l8))) ∧ (∃ x22, (rget l8 2 = [I x22]) ∧ ((Cl Tryz.prog 150 sP ([SV.agg [SL 1 l7, I x16, I x17], I (wmul .i64 2 x22)]) (fun rs4 => ∃ l9 x23, ∃ x24 l10, (rs4 = [SV.agg [SL 1 l9, I x23, I x24], SL 1 l10]) ∧ ((Sm (some ([[SV.slice 21 [] 1, I ((0 : Int)), I ((0 : Int))], [SL 1 l7, I x16, I x17], [SV.osl 641, I x7, I x8], [SV.gd 0 true (SL 21 l3)], [S s, I x14, I x15, I x18, I x19, SV.slice 2 [] 1, I ((0 : Int)), I ((0 : Int)), I ((0 : Int)), I ((0 : Int)), I ((0 : Int)), I ((0 : Int)), I ((0 : Int)), I ((0 : Int)), I ((0 : Int)), I ((0 : Int)), I ((0 : Int)), I ((0 : Int)), I ((0 : Int)), I ((0 : Int)), I ((0 : Int))], [SL 1 l7, I x16, I x17]]))) ∧ (Inv2 l10 l9 x23 x24)))) ∧ (Cl Tryz.prog 150 sP ([SV.agg [SL 1 l7, I x16, I x17], I (wmul .i64 2 x22)]) (fun rs4 => ∃ l9 x23, ∃ x24 l10, (rs4 = [SV.agg [SL 1 l9, I x23, I x24], SL 1 l10]) ∧ ((Sm (some ([[SV.slice 21 [] 1, I ((0 : Int)), I ((0 : Int))], [SL 1 l7, I x16, I x17], [SV.osl 641, I x7, I x8], [SV.gd 0 true (SL 21 l3)], [S s, I x14, I x15, I x18, I x19, SV.slice 2 [] 1, I ((0 : Int)), I ((0 : Int)), I ((0 : Int)), I ((0 : Int)), I ((0 : Int)), I ((0 : Int)), I ((0 : Int)), I ((0 : Int)), I ((0 : Int)), I ((0 : Int)), I ((0 : Int)), I ((0 : Int)), I ((0 : Int)), I ((0 : Int)), I ((0 : Int))], [SL 1 l7, I x16, I x17]]))) ∧ (Inv2 l10 l9 x23 x24))))))) ∧ (∀ l9 l10, ∀ x22 x23, (Inv2 l9 l10 x22 x23) → ∃ Inv3 : Int → ByteArray → Int → Int → Int → Int → (LL) → Int → Int → Int → Int → Int → Int → Int → Int → Int → Int → Int → Int → Int → Int → Int → Prop, ∃ m3 : Int → ByteArray → Int → Int → Int → Int → (LL) → Int → Int → Int → Int → Int → Int → Int → Int → Int → Int → Int → Int → Int → Int → Int → Nat, (Inv3 0 s x14 x15 x18 x19 [] ((0 : Int)) ((0 : Int)) ((0 : Int)) ((0 : Int)) ((0 : Int)) ((0 : Int)) ((0 : Int)) ((0 : Int)) ((0 : Int)) ((0 : Int)) ((0 : Int)) ((0 : Int)) ((0 : Int)) ((0 : Int)) ((0 : Int))) ∧ (∀ x24 s1, ∀ x25 x26, ∀ x27 x28, ∀ l11 x29, ∀ x30 x31, ∀ x32 x33, ∀ x34 x35, ∀ x36 x37, ∀ x38 x39, ∀ x40 x41, ∀ x42 x43, (Inv3 x24 s1 x25 x26 x27 x28 l11 x29 x30 x31 x32 x33 x34 x35 x36 x37 x38 x39 x40 x41 x42 x43) → (((0 : Int) ≤ 2) ∧ (2 < (rlen l8))) ∧ (∃ x44, (rget l8 2 = [I x44]) ∧ (ifB (ilt x24 x44) ((((0 : Int) ≤ (wmul .i64 2 x24)) ∧ ((wmul .i64 2 x24) < (rlen l9))) ∧ (∃ x45, (rget l9 (wmul .i64 2 x24) = [I x45]) ∧ ((((0 : Int) ≤ (wadd .i64 (wmul .i64 2 x24) 1)) ∧ ((wadd .i64 (wmul .i64 2 x24) 1) < (rlen l9))) ∧ (∃ x46, (rget l9 (wadd .i64 (wmul .i64 2 x24) 1) = [I x46]) ∧ (((lsum (rlen l11) (rlen ([[I x45, I x46]]))) ≤ ((2147483648 : Int))) ∧ ((Sm (some ([[SV.slice 21 [] 1, I ((0 : Int)), I ((0 : Int))], [SL 1 l10, I x22, I x23], [SV.osl 641, I x7, I x8], [SV.gd 0 true (SL 21 l3)], [SL 1 l7, I x16, I x17], [SL 1 l10, I x22, I x23]]))) ∧ ((Inv3 (wadd .i64 x24 1) s1 x25 x26 x27 x28 (rapp l11 ([[I x45, I x46]])) x29 x30 x31 x32 x33 x34 x35 x36 x37 x38 x39 x40 x41 x42 x43) ∧ (Nat.le (Nat.succ (m3 (wadd .i64 x24 1) s1 x25 x26 x27 x28 (rapp l11 ([[I x45, I x46]])) x29 x30 x31 x32 x33 x34 x35 x36 x37 x38 x39 x40 x41 x42 x43)) (m3 x24 s1 x25 x26 x27 x28 l11 x29 x30 x31 x32 x33 x34 x35 x36 x37 x38 x39 x40 x41 x42 x43))))))))) ((Sm (some ([[SV.slice 21 [] 1, I ((0 : Int)), I ((0 : Int))], [SV.osl 641, I x7, I x8], [SV.gd 0 true (SL 21 l3)]]))) ∧ (Inv1 l8 l10 x22 x23 l7 x16 x17 s1 x25 x26 x27 x28 l11 x29 x30 x31 x32 x33 x34 x35 x36 x37 x38 x39 x40 x41 x42 x43))))))))))))))))))) ((Sm (some ([[SV.slice 21 [] 1, I ((0 : Int)), I ((0 : Int))], [SV.osl 641, I x7, I x8], [SV.gd 0 true (SL 21 l3)]]))) ∧ (Inv1 l6 l5 x12 x13 l5 x12 x13 s x14 x15 ((0 : Int)) ((0 : Int)) [] ((0 : Int)) ((0 : Int)) ((0 : Int)) ((0 : Int)) ((0 : Int)) ((0 : Int)) ((0 : Int)) ((0 : Int)) ((0 : Int)) ((0 : Int)) ((0 : Int)) ((0 : Int)) ((0 : Int)) ((0 : Int)) ((0 : Int))))) ∧ (∀ l7 l8, ∀ x16 x17, ∀ l9 x18, ∀ x19 s1, ∀ x20 x21, ∀ x22 x23, ∀ l10 x24, ∀ x25 x26, ∀ x27 x28, ∀ x29 x30, ∀ x31 x32, ∀ x33 x34, ∀ x35 x36, ∀ x37 x38, (Inv1 l7 l8 x16 x17 l9 x18 x19 s1 x20 x21 x22 x23 l10 x24 x25 x26 x27 x28 x29 x30 x31 x32 x33 x34 x35 x36 x37 x38) → ∃ Inv2 : (LL) → (LL) → Int → Int → (LL) → Int → Int → ByteArray → Int → Int → Int → Int → (LL) → Int → Int → Int → Int → Int → Int → Int → Int → Int → Int → Int → Int → Int → Int → Int → Prop, ∃ m2 : (LL) → (LL) → Int → Int → (LL) → Int → Int → ByteArray → Int → Int → Int → Int → (LL) → Int → Int → Int → Int → Int → Int → Int → Int → Int → Int → Int → Int → Int → Int → Int → Nat, (ifB (bpick (ieq x20 1) true (ieq x20 3)) (Cl Tryz.prog 150 sP ([SV.agg [SL 1 l8, I x16, I x17], I 10]) (fun rs3 => ∃ l11 x39, ∃ x40 l12, (rs3 = [SV.agg [SL 1 l11, I x39, I x40], SL 1 l12]) ∧ (∃ Inv3 : Int → ByteArray → Int → Int → Int → Int → (LL) → Int → Int → Int → Int → Int → Int → Int → Int → Int → Int → Int → Int → Int → Int → Int → Prop, ∃ m3 : Int → ByteArray → Int → Int → Int → Int → (LL) → Int → Int → Int → Int → Int → Int → Int → Int → Int → Int → Int → Int → Int → Int → Int → Nat, (Inv3 0 s1 x20 x21 x22 x23 l10 x24 x25 x26 x27 x28 x29 x30 x31 x32 x33 x34 x35 x36 x37 x38) ∧ (∀ x41 s2, ∀ x42 x43, ∀ x44 x45, ∀ l13 x46, ∀ x47 x48, ∀ x49 x50, ∀ x51 x52, ∀ x53 x54, ∀ x55 x56, ∀ x57 x58, ∀ x59 x60, (Inv3 x41 s2 x42 x43 x44 x45 l13 x46 x47 x48 x49 x50 x51 x52 x53 x54 x55 x56 x57 x58 x59 x60) → ifB (ilt x41 9) ((((0 : Int) ≤ x41) ∧ (x41 < (rlen l12))) ∧ (∃ x61, (rget l12 x41 = [I x61]) ∧ ((((0 : Int) ≤ x41) ∧ (x41 < ((9 : Int)))) ∧ (((x41 = (0 : Int)) → (Sm (some ([[SV.slice 21 [] 1, I ((0 : Int)), I ((0 : Int))], [SL 1 l11, I x39, I x40], [SV.osl 641, I x7, I x8], [SV.gd 0 true (SL 21 l3)], [SL 1 l11, I x39, I x40]]))) ∧ ((Inv3 (wadd .i64 x41 1) s2 x42 x43 x44 x45 l13 x61 x47 x48 x49 x50 x51 x52 x53 x54 x55 x56 x57 x58 x59 x60) ∧ (Nat.le (Nat.succ (m3 (wadd .i64 x41 1) s2 x42 x43 x44 x45 l13 x61 x47 x48 x49 x50 x51 x52 x53 x54 x55 x56 x57 x58 x59 x60)) (m3 x41 s2 x42 x43 x44 x45 l13 x46 x47 x48 x49 x50 x51 x52 x53 x54 x55 x56 x57 x58 x59 x60)))) ∧ (((x41 = (1 : Int)) → (Sm (some ([[SV.slice 21 [] 1, I ((0 : Int)), I ((0 : Int))], [SL 1 l11, I x39, I x40], [SV.osl 641, I x7, I x8], [SV.gd 0 true (SL 21 l3)], [SL 1 l11, I x39, I x40]]))) ∧ ((Inv3 (wadd .i64 x41 1) s2 x42 x43 x44 x45 l13 x46 x61 x48 x49 x50 x51 x52 x53 x54 x55 x56 x57 x58 x59 x60) ∧ (Nat.le (Nat.succ (m3 (wadd .i64 x41 1) s2 x42 x43 x44 x45 l13 x46 x61 x48 x49 x50 x51 x52 x53 x54 x55 x56 x57 x58 x59 x60)) (m3 x41 s2 x42 x43 x44 x45 l13 x46 x47 x48 x49 x50 x51 x52 x53 x54 x55 x56 x57 x58 x59 x60)))) ∧ (((x41 = (2 : Int)) → (Sm (some ([[SV.slice 21 [] 1, I ((0 : Int)), I ((0 : Int))], [SL 1 l11, I x39, I x40], [SV.osl 641, I x7, I x8], [SV.gd 0 true (SL 21 l3)], [SL 1 l11, I x39, I x40]]))) ∧ ((Inv3 (wadd .i64 x41 1) s2 x42 x43 x44 x45 l13 x46 x47 x61 x49 x50 x51 x52 x53 x54 x55 x56 x57 x58 x59 x60) ∧ (Nat.le (Nat.succ (m3 (wadd .i64 x41 1) s2 x42 x43 x44 x45 l13 x46 x47 x61 x49 x50 x51 x52 x53 x54 x55 x56 x57 x58 x59 x60)) (m3 x41 s2 x42 x43 x44 x45 l13 x46 x47 x48 x49 x50 x51 x52 x53 x54 x55 x56 x57 x58 x59 x60)))) ∧ (((x41 = (3 : Int)) → (Sm (some ([[SV.slice 21 [] 1, I ((0 : Int)), I ((0 : Int))], [SL 1 l11, I x39, I x40], [SV.osl 641, I x7, I x8], [SV.gd 0 true (SL 21 l3)], [SL 1 l11, I x39, I x40]]))) ∧ ((Inv3 (wadd .i64 x41 1) s2 x42 x43 x44 x45 l13 x46 x47 x48 x61 x50 x51 x52 x53 x54 x55 x56 x57 x58 x59 x60) ∧ (Nat.le (Nat.succ (m3 (wadd .i64 x41 1) s2 x42 x43 x44 x45 l13 x46 x47 x48 x61 x50 x51 x52 x53 x54 x55 x56 x57 x58 x59 x60)) (m3 x41 s2 x42 x43 x44 x45 l13 x46 x47 x48 x49 x50 x51 x52 x53 x54 x55 x56 x57 x58 x59 x60)))) ∧ (((x41 = (4 : Int)) → (Sm (some ([[SV.slice 21 [] 1, I ((0 : Int)), I ((0 : Int))], [SL 1 l11, I x39, I x40], [SV.osl 641, I x7, I x8], [SV.gd 0 true (SL 21 l3)], [SL 1 l11, I x39, I x40]]))) ∧ ((Inv3 (wadd .i64 x41 1) s2 x42 x43 x44 x45 l13 x46 x47 x48 x49 x61 x51 x52 x53 x54 x55 x56 x57 x58 x59 x60) ∧ (Nat.le (Nat.succ (m3 (wadd .i64 x41 1) s2 x42 x43 x44 x45 l13 x46 x47 x48 x49 x61 x51 x52 x53 x54 x55 x56 x57 x58 x59 x60)) (m3 x41 s2 x42 x43 x44 x45 l13 x46 x47 x48 x49 x50 x51 x52 x53 x54 x55 x56 x57 x58 x59 x60)))) ∧ (((x41 = (5 : Int)) → (Sm (some ([[SV.slice 21 [] 1, I ((0 : Int)), I ((0 : Int))], [SL 1 l11, I x39, I x40], [SV.osl 641, I x7, I x8], [SV.gd 0 true (SL 21 l3)], [SL 1 l11, I x39, I x40]]))) ∧ ((Inv3 (wadd .i64 x41 1) s2 x42 x43 x44 x45 l13 x46 x47 x48 x49 x50 x61 x52 x53 x54 x55 x56 x57 x58 x59 x60) ∧ (Nat.le (Nat.succ (m3 (wadd .i64 x41 1) s2 x42 x43 x44 x45 l13 x46 x47 x48 x49 x50 x61 x52 x53 x54 x55 x56 x57 x58 x59 x60)) (m3 x41 s2 x42 x43 x44 x45 l13 x46 x47 x48 x49 x50 x51 x52 x53 x54 x55 x56 x57 x58 x59 x60)))) ∧ (((x41 = (6 : Int)) → (Sm (some ([[SV.slice 21 [] 1, I ((0 : Int)), I ((0 : Int))], [SL 1 l11, I x39, I x40], [SV.osl 641, I x7, I x8], [SV.gd 0 true (SL 21 l3)], [SL 1 l11, I x39, I x40]]))) ∧ ((Inv3 (wadd .i64 x41 1) s2 x42 x43 x44 x45 l13 x46 x47 x48 x49 x50 x51 x61 x53 x54 x55 x56 x57 x58 x59 x60) ∧ (Nat.le (Nat.succ (m3 (wadd .i64 x41 1) s2 x42 x43 x44 x45 l13 x46 x47 x48 x49 x50 x51 x61 x53 x54 x55 x56 x57 x58 x59 x60)) (m3 x41 s2 x42 x43 x44 x45 l13 x46 x47 x48 x49 x50 x51 x52 x53 x54 x55 x56 x57 x58 x59 x60)))) ∧ (((x41 = (7 : Int)) → (Sm (some ([[SV.slice 21 [] 1, I ((0 : Int)), I ((0 : Int))], [SL 1 l11, I x39, I x40], [SV.osl 641, I x7, I x8], [SV.gd 0 true (SL 21 l3)], [SL 1 l11, I x39, I x40]]))) ∧ ((Inv3 (wadd .i64 x41 1) s2 x42 x43 x44 x45 l13 x46 x47 x48 x49 x50 x51 x52 x61 x54 x55 x56 x57 x58 x59 x60) ∧ (Nat.le (Nat.succ (m3 (wadd .i64 x41 1) s2 x42 x43 x44 x45 l13 x46 x47 x48 x49 x50 x51 x52 x61 x54 x55 x56 x57 x58 x59 x60)) (m3 x41 s2 x42 x43 x44 x45 l13 x46 x47 x48 x49 x50 x51 x52 x53 x54 x55 x56 x57 x58 x59 x60)))) ∧ (((x41 = (8 : Int)) → (Sm (some ([[SV.slice 21 [] 1, I ((0 : Int)), I ((0 : Int))], [SL 1 l11, I x39, I x40], [SV.osl 641, I x7, I x8], [SV.gd 0 true (SL 21 l3)], [SL 1 l11, I x39, I x40]]))) ∧ ((Inv3 (wadd .i64 x41 1) s2 x42 x43 x44 x45 l13 x46 x47 x48 x49 x50 x51 x52 x53 x61 x55 x56 x57 x58 x59 x60) ∧ (Nat.le (Nat.succ (m3 (wadd .i64 x41 1) s2 x42 x43 x44 x45 l13 x46 x47 x48 x49 x50 x51 x52 x53 x61 x55 x56 x57 x58 x59 x60)) (m3 x41 s2 x42 x43 x44 x45 l13 x46 x47 x48 x49 x50 x51 x52 x53 x54 x55 x56 x57 x58 x59 x60)))) ∧ True)))))))))))) ((((0 : Int) ≤ 9) ∧ (9 < (rlen l12))) ∧ (∃ x61, (rget l12 9 = [I x61]) ∧ ((Sm (some ([[SV.slice 21 [] 1, I ((0 : Int)), I ((0 : Int))], [SV.osl 641, I x7, I x8], [SV.gd 0 true (SL 21 l3)]]))) ∧ (Inv2 l12 l11 x39 x40 l11 x39 x40 s2 x42 x43 x44 x45 l13 x46 x47 x48 x49 x50 x51 x52 x53 x54 x61 x56 x57 x58 x59 x60)))))))) ((Sm (some ([[SV.slice 21 [] 1, I ((0 : Int)), I ((0 : Int))], [SV.osl 641, I x7, I x8], [SV.gd 0 true (SL 21 l3)]]))) ∧ (Inv2 l7 l8 x16 x17 l9 x18 x19 s1 x20 x21 x22 x23 l10 x24 x25 x26 x27 x28 x29 x30 x31 x32 x33 x34 x35 x36 x37 x38))) ∧ (∀ l11 l12, ∀ x39 x40, ∀ l13 x41, ∀ x42 s2, ∀ x43 x44, ∀ x45 x46, ∀ l14 x47, ∀ x48 x49, ∀ x50 x51, ∀ x52 x53, ∀ x54 x55, ∀ x56 x57, ∀ x58 x59, ∀ x60 x61, (Inv2 l11 l12 x39 x40 l13 x41 x42 s2 x43 x44 x45 x46 l14 x47 x48 x49 x50 x51 x52 x53 x54 x55 x56 x57 x58 x59 x60 x61) → ∃ Inv3 : (LL) → (LL) → Int → Int → (LL) → Int → Int → ByteArray → Int → Int → Int → Int → (LL) → Int → Int → Int → Int → Int → Int → Int → Int → Int → Int → Int → Int → Int → Int → Int → Prop, ∃ m3 : (LL) → (LL) → Int → Int → (LL) → Int → Int → ByteArray → Int → Int → Int → Int → (LL) → Int → Int → Int → Int → Int → Int → Int → Int → Int → Int → Int → Int → Int → Int → Int → Nat, (ifB (bpick (ieq x43 2) true (ieq x43 3)) (Cl Tryz.prog 150 sP ([SV.agg [SL 1 l12, I x39, I x40], I 2]) (fun rs3 => ∃ l15 x62, ∃ x63 l16, (rs3 = [SV.agg [SL 1 l15, I x62, I x63], SL 1 l16]) ∧ ((((0 : Int) ≤ 0) ∧ (0 < (rlen l16))) ∧ (∃ x64, (rget l16 0 = [I x64]) ∧ ((((0 : Int) ≤ 1) ∧ (1 < (rlen l16))) ∧ (∃ x65, (rget l16 1 = [I x65]) ∧ ((Sm (some ([[SV.slice 21 [] 1, I ((0 : Int)), I ((0 : Int))], [SV.osl 641, I x7, I x8], [SV.gd 0 true (SL 21 l3)]]))) ∧ (Inv3 l16 l15 x62 x63 l15 x62 x63 s2 x43 x44 x45 x46 l14 x47 x48 x49 x50 x51 x52 x53 x54 x55 x56 x64 x65 x59 x60 x61)))))))) ((Sm (some ([[SV.slice 21 [] 1, I ((0 : Int)), I ((0 : Int))], [SV.osl 641, I x7, I x8], [SV.gd 0 true (SL 21 l3)]]))) ∧ (Inv3 l11 l12 x39 x40 l13 x41 x42 s2 x43 x44 x45 x46 l14 x47 x48 x49 x50 x51 x52 x53 x54 x55 x56 x57 x58 x59 x60 x61))) ∧ (∀ l15 l16, ∀ x62 x63, ∀ l17 x64, ∀ x65 s3, ∀ x66 x67, ∀ x68 x69, ∀ l18 x70, ∀ x71 x72, ∀ x73 x74, ∀ x75 x76, ∀ x77 x78, ∀ x79 x80, ∀ x81 x82, ∀ x83 x84, (Inv3 l15 l16 x62 x63 l17 x64 x65 s3 x66 x67 x68 x69 l18 x70 x71 x72 x73 x74 x75 x76 x77 x78 x79 x80 x81 x82 x83 x84) → Cl Tryz.prog 150 sP ([SV.agg [SL 1 l16, I x62, I x63], I 3]) (fun rs3 => ∃ l19 x85, ∃ x86 l20, (rs3 = [SV.agg [SL 1 l19, I x85, I x86], SL 1 l20]) ∧ (∃ Inv4 : Int → ByteArray → Int → Int → Int → Int → (LL) → Int → Int → Int → Int → Int → Int → Int → Int → Int → Int → Int → Int → Int → Int → Int → Prop, ∃ m4 : Int → ByteArray → Int → Int → Int → Int → (LL) → Int → Int → Int → Int → Int → Int → Int → Int → Int → Int → Int → Int → Int → Int → Int → Nat, (Inv4 0 s3 x66 x67 x68 x69 l18 x70 x71 x72 x73 x74 x75 x76 x77 x78 x79 x80 x81 x82 x83 x84) ∧ (∀ x87 s4, ∀ x88 x89, ∀ x90 x91, ∀ l21 x92, ∀ x93 x94, ∀ x95 x96, ∀ x97 x98, ∀ x99 x100, ∀ x101 x102, ∀ x103 x104, ∀ x105 x106, (Inv4 x87 s4 x88 x89 x90 x91 l21 x92 x93 x94 x95 x96 x97 x98 x99 x100 x101 x102 x103 x104 x105 x106) → ifB (ilt x87 3) ((((0 : Int) ≤ x87) ∧ (x87 < (rlen l20))) ∧ (∃ x107, (rget l20 x87 = [I x107]) ∧ ((((0 : Int) ≤ x87) ∧ (x87 < ((3 : Int)))) ∧ (((x87 = (0 : Int)) → (Sm (some ([[SV.slice 21 [] 1, I ((0 : Int)), I ((0 : Int))], [SL 1 l19, I x85, I x86], [SV.osl 641, I x7, I x8], [SV.gd 0 true (SL 21 l3)], [SL 1 l19, I x85, I x86]]))) ∧ ((Inv4 (wadd .i64 x87 1) s4 x88 x89 x90 x91 l21 x92 x93 x94 x95 x96 x97 x98 x99 x100 x101 x102 x103 x107 x105 x106) ∧ (Nat.le (Nat.succ (m4 (wadd .i64 x87 1) s4 x88 x89 x90 x91 l21 x92 x93 x94 x95 x96 x97 x98 x99 x100 x101 x102 x103 x107 x105 x106)) (m4 x87 s4 x88 x89 x90 x91 l21 x92 x93 x94 x95 x96 x97 x98 x99 x100 x101 x102 x103 x104 x105 x106)))) ∧ (((x87 = (1 : Int)) → (Sm (some ([[SV.slice 21 [] 1, I ((0 : Int)), I ((0 : Int))], [SL 1 l19, I x85, I x86], [SV.osl 641, I x7, I x8], [SV.gd 0 true (SL 21 l3)], [SL 1 l19, I x85, I x86]]))) ∧ ((Inv4 (wadd .i64 x87 1) s4 x88 x89 x90 x91 l21 x92 x93 x94 x95 x96 x97 x98 x99 x100 x101 x102 x103 x104 x107 x106) ∧ (Nat.le (Nat.succ (m4 (wadd .i64 x87 1) s4 x88 x89 x90 x91 l21 x92 x93 x94 x95 x96 x97 x98 x99 x100 x101 x102 x103 x104 x107 x106)) (m4 x87 s4 x88 x89 x90 x91 l21 x92 x93 x94 x95 x96 x97 x98 x99 x100 x101 x102 x103 x104 x105 x106)))) ∧ (((x87 = (2 : Int)) → (Sm (some ([[SV.slice 21 [] 1, I ((0 : Int)), I ((0 : Int))], [SL 1 l19, I x85, I x86], [SV.osl 641, I x7, I x8], [SV.gd 0 true (SL 21 l3)], [SL 1 l19, I x85, I x86]]))) ∧ ((Inv4 (wadd .i64 x87 1) s4 x88 x89 x90 x91 l21 x92 x93 x94 x95 x96 x97 x98 x99 x100 x101 x102 x103 x104 x105 x107) ∧ (Nat.le (Nat.succ (m4 (wadd .i64 x87 1) s4 x88 x89 x90 x91 l21 x92 x93 x94 x95 x96 x97 x98 x99 x100 x101 x102 x103 x104 x105 x107)) (m4 x87 s4 x88 x89 x90 x91 l21 x92 x93 x94 x95 x96 x97 x98 x99 x100 x101 x102 x103 x104 x105 x106)))) ∧ True)))))) (((lsum (rlen l3) (rlen ([[S s4, I x88, I x89, I x90, I x91, SL 2 l21, I x92, I x93, I x94, I x95, I x96, I x97, I x98, I x99, I x100, I x101, I x102, I x103, I x104, I x105, I x106]]))) ≤ ((2147483648 : Int))) ∧ ((Sm (some ([[SV.slice 21 [] 1, I ((0 : Int)), I ((0 : Int))]]))) ∧ ((Inv (wadd .i64 x4 1) l19 x85 x86 (rapp l3 ([[S s4, I x88, I x89, I x90, I x91, SL 2 l21, I x92, I x93, I x94, I x95, I x96, I x97, I x98, I x99, I x100, I x101, I x102, I x103, I x104, I x105, I x106]])) x7 x8) ∧ (Nat.le (Nat.succ (m (wadd .i64 x4 1) l19 x85 x86 (rapp l3 ([[S s4, I x88, I x89, I x90, I x91, SL 2 l21, I x92, I x93, I x94, I x95, I x96, I x97, I x98, I x99, I x100, I x101, I x102, I x103, I x104, I x105, I x106]])) x7 x8)) (m x4 l2 x5 x6 l3 x7 x8)))))))))))))))))))) (Cl Tryz.prog 150 sP ([SV.agg [SL 1 l2, I x5, I x6], I 2]) (fun rs1 => ∃ l4 x10, ∃ x11 l5, (rs1 = [SV.agg [SL 1 l4, I x10, I x11], SL 1 l5]) ∧ ((((0 : Int) ≤ 0) ∧ (0 < (rlen l5))) ∧ (∃ x12, (rget l5 0 = [I x12]) ∧ ((((0 : Int) ≤ 1) ∧ (1 < (rlen l5))) ∧ (∃ x13, (rget l5 1 = [I x13]) ∧ (∃ Inv1 : Bool → (LL) → Int → Int → Prop, ∃ m1 : Bool → (LL) → Int → Int → Nat, (ifB (ine x11 0) ((Sm (some ([[SV.slice 21 [] 1, I ((0 : Int)), I ((0 : Int))], [SL 1 l4, I x10, I x11]]))) ∧ (Inv1 true l3 x12 x13)) (Cl Tryz.prog 33 sP ([SV.agg [SL 21 l3, I x12, I x13]]) (fun rs2 => ∃ b, (rs2 = [B b]) ∧ (ifB (bnot b) ((Sm (some ([[SV.slice 21 [] 1, I ((0 : Int)), I ((0 : Int))], [SL 1 l4, I x10, I x11]]))) ∧ (Inv1 true l3 x12 x13)) ((isBytes bs) ∧ (Cl Tryz.prog 75 sP ([SV.agg [SL 21 l3, I x12, I x13]]) (fun rs3 => ∃ l6, (rs3 = [SL 1 l6]) ∧ ((isBytes l6) ∧ ((Sm (some ([[SV.slice 21 [] 1, I ((0 : Int)), I ((0 : Int))], [SL 1 l4, I x10, I x11]]))) ∧ (Inv1 (sne (bstr l6) (bstr bs)) l3 x12 x13)))))))))) ∧ (∀ b l6, ∀ x14 x15, (Inv1 b l6 x14 x15) → ifB b (Q ([SV.agg ([SL 21 [], I ((0 : Int)), I ((0 : Int))]), B false])) (Q ([SV.agg [SL 21 l6, I x14, I x15], B true])))))))))))))))))))))) : Ct Tryz.prog 80 {} [SL 1 bs] Q :=
 fn_of (f := 80) SgT SvT (fun k => bif Nat.beq k 35 then some { slots := [(7,false,[.int .i64])], boxes := [(512,[.sl 1,.int .i64,.int .i64]),(640,[.own 21,.int .i64,.int .i64])], fixed := [256] } else bif Nat.beq k 4000069 then some { slots := [(10,false,[.sl 1])], boxes := [(512,[.sl 1,.int .i64,.int .i64]),(1152,[.sl 1,.int .i64,.int .i64]),(1024,[.str,.int .i64,.int .i64,.int .i64,.int .i64,.sl 2,.int .i64,.int .i64,.int .i64,.int .i64,.int .i64,.int .i64,.int .i64,.int .i64,.int .i64,.int .i64,.int .i64,.int .i64,.int .i64,.int .i64,.int .i64])], fixed := [256, 640, 641] } else bif Nat.beq k 4000140 then some { slots := [(10,false,[.sl 1])], boxes := [(512,[.sl 1,.int .i64,.int .i64]),(1152,[.sl 1,.int .i64,.int .i64]),(1024,[.str,.int .i64,.int .i64,.int .i64,.int .i64,.sl 2,.int .i64,.int .i64,.int .i64,.int .i64,.int .i64,.int .i64,.int .i64,.int .i64,.int .i64,.int .i64,.int .i64,.int .i64,.int .i64,.int .i64,.int .i64])], fixed := [256, 640, 641] } else bif Nat.beq k 4000171 then some { slots := [(10,false,[.sl 1])], boxes := [(512,[.sl 1,.int .i64,.int .i64]),(1152,[.sl 1,.int .i64,.int .i64]),(1024,[.str,.int .i64,.int .i64,.int .i64,.int .i64,.sl 2,.int .i64,.int .i64,.int .i64,.int .i64,.int .i64,.int .i64,.int .i64,.int .i64,.int .i64,.int .i64,.int .i64,.int .i64,.int .i64,.int .i64,.int .i64])], fixed := [256, 640, 641] } else bif Nat.beq k 1000022 then some { slots := [(12,false,[.sl 1])], boxes := [(1408,[.sl 1,.int .i64,.int .i64])], fixed := [256, 512, 640, 641, 1024, 1152], ptrs := [(11,1408)] } else bif Nat.beq k 107 then some { slots := [(13,false,[.int .i64])], boxes := [(1024,[.str,.int .i64,.int .i64,.int .i64,.int .i64,.own 2,.int .i64,.int .i64,.int .i64,.int .i64,.int .i64,.int .i64,.int .i64,.int .i64,.int .i64,.int .i64,.int .i64,.int .i64,.int .i64,.int .i64,.int .i64])], fixed := [256, 512, 640, 641, 1152, 1408] } else bif Nat.beq k 147 then some { slots := [(14,false,[.int .i64])], boxes := [(1024,[.str,.int .i64,.int .i64,.int .i64,.int .i64,.sl 2,.int .i64,.int .i64,.int .i64,.int .i64,.int .i64,.int .i64,.int .i64,.int .i64,.int .i64,.int .i64,.int .i64,.int .i64,.int .i64,.int .i64,.int .i64])], fixed := [256, 512, 640, 641, 1152] } else bif Nat.beq k 192 then some { slots := [(15,false,[.int .i64])], boxes := [(1024,[.str,.int .i64,.int .i64,.int .i64,.int .i64,.sl 2,.int .i64,.int .i64,.int .i64,.int .i64,.int .i64,.int .i64,.int .i64,.int .i64,.int .i64,.int .i64,.int .i64,.int .i64,.int .i64,.int .i64,.int .i64])], fixed := [256, 512, 640, 641, 1152] } else bif Nat.beq k 1000050 then some { slots := [(237,false,[.bool])], boxes := [(640,[.sl 21,.int .i64,.int .i64])], fixed := [256, 512] } else none) Tryz.f80 Tryz.func80 (by kernel_rfl) (by kernel_rfl) h

end Go.Proofs.YtbocfphenkidnaaGreatDoor.Row

namespace Go.Proofs.YtbocfphenkidnaaGreatDoor.Row
open Go Go.Px Go.Proofs Cmp Go.Proofs.YtbocfphenkidnaaGreatDoor.St Cod
set_option maxRecDepth 100000
set_option linter.unusedVariables false

def G3 (l pre : List Int) (a er : Int) : Prop := er = 0 ∧ a = pre.length ∧ pre <+: l

def rg40 (n : Int) : Prop := 0 ≤ n ∧ n ≤ 1099511627776

structure TK (l : List Int) (a er n : Int) (ns : List Int) (a' er' : Int) : Prop where
 len : ns.length = n.toNat
 rg : ∀ m ∈ ns, -1 ≤ m ∧ m ≤ 1099511627776
 cmp : ∀ pre ms, G3 l pre a er → pre ++ encN ms <+: l → ms.length = n.toNat → (∀ m ∈ ms, rg40 m) → G3 l (pre ++ encN ms) a' er' ∧ ns = ms

theorem rtake16_fn (l : List Int) (a er n : Int) (hl : l.length ≤ 100000) (hb : Byts l) (hn : n ≤ 1000) : Ct Tryz.prog 150 {} [cu3 (bR l) a er, I n] (fun r => ∃ a' er' ns, r = [cu3 (bR l) a' er', SL 1 (nI ns)] ∧ TK l a er n ns a' er') := by
 refine rtake16_nf _ _ _ _ _ ⟨fun rows x l' a' er' => l' = bR l ∧ 0 ≤ x ∧ (x = 0 ∨ x ≤ n) ∧ ∃ ns, rows = nI ns ∧ (ns.length : Int) = x ∧ (∀ m ∈ ns, -1 ≤ m ∧ m ≤ 1099511627776) ∧
  (∀ pre ms, G3 l pre a er → pre ++ encN ms <+: l → ms.length = n.toNat → (∀ m ∈ ms, rg40 m) → G3 l (pre ++ encN (ms.take x.toNat)) a' er' ∧ ns = ms.take x.toNat),
  fun _ x _ _ _ => (n - x).toNat, ⟨rfl, by omega, by omega, [], rfl, rfl, by simp, fun pre ms h1 h2 h3 h4 => by simpa [encN] using h1⟩, ?_⟩
 rintro _ x _ a1 er1 ⟨rfl, x0, x1, ns, rfl, hns, hrg, hcm⟩
 refine ifB_intro (fun h => ?_) (fun h => ?_)
 ·simp at h
  have w : wadd IntKind.i64 x 1 = x + 1 := wadd_i64 (by omega) (by omega)
  refine Cl.ofQ (ruint_fn l a1 er1 hl hb) ?_
  rintro r ⟨a2, er2, v, rfl, ho⟩
  have hls : ∀ y : Int, lsum (rlen (nI ns)) (rlen (nI [y])) ≤ 2147483648 := fun y => lsum_ok (by simp; omega)
  have step : ∀ y : Int, (-1 ≤ y ∧ y ≤ 1099511627776) → (v ≤ 1099511627776 → y = v) →
    (bR l = bR l ∧ 0 ≤ x + 1 ∧ (x + 1 = 0 ∨ x + 1 ≤ n) ∧ ∃ ns', rapp (nI ns) [[I y]] = nI ns' ∧ (ns'.length : Int) = x + 1 ∧ (∀ m ∈ ns', -1 ≤ m ∧ m ≤ 1099511627776) ∧
     (∀ pre ms, G3 l pre a er → pre ++ encN ms <+: l → ms.length = n.toNat → (∀ m ∈ ms, rg40 m) → G3 l (pre ++ encN (ms.take (x + 1).toNat)) a2 er2 ∧ ns' = ms.take (x + 1).toNat)) ∧
    Nat.le (Nat.succ (n - (x + 1)).toNat) (n - x).toNat := by
   intro y hy hv
   refine ⟨⟨rfl, by omega, by omega, ns ++ [y], by simp [rapp], by simp; omega, ?_, ?_⟩, by show Nat.succ _ ≤ _; omega⟩
   ·intro m hm
    rcases List.mem_append.1 hm with hm | hm
    ·exact hrg m hm
    ·simp at hm; rw [hm]; exact hy
   ·intro pre ms h1 h2 h3 h4
    obtain ⟨⟨g1, g2, g3⟩, g4⟩ := hcm pre ms h1 h2 h3 h4
    have hlt : x.toNat < ms.length := by omega
    have hm := h4 ms[x.toNat] (List.getElem_mem _)
    unfold rg40 at hm
    have hsp : encN ms = encN (ms.take x.toNat) ++ (leb ms[x.toNat].toNat ++ encN (ms.drop (x.toNat + 1))) := by
     conv => lhs; rw [← List.take_append_drop x.toNat ms]
     rw [encN_app, List.drop_eq_getElem_cons hlt]
     simp only [encN, List.flatMap_cons]
    rw [hsp, ← List.append_assoc] at h2
    have h5 := pre_more h2
    obtain ⟨t, ht⟩ := drop_pre g2 h5
    obtain ⟨k1, k2, k3⟩ := ho.good g1 (by omega) ms[x.toNat].toNat t ht (by omega)
    have hyv : y = ms[x.toNat] := by rw [hv (by omega)]; omega
    rw [show (x + 1).toNat = x.toNat + 1 by omega, enc_step hlt, ← List.append_assoc]
    refine ⟨⟨k2, by rw [List.length_append]; omega, h5⟩, ?_⟩
    rw [g4, hyv]; simp
  have v0 := ho.n0
  rw [w]
  refine ⟨_, _, _, _, rfl, ifB_intro (fun h2 => ?_) (fun h2 => ?_)⟩
  ·simp at h2
   exact ⟨hls _, rfl, step (-1) (by omega) (fun h => by omega)⟩
  ·simp at h2
   rw [wcvI64 (by omega) (by omega)]
   exact ⟨hls _, rfl, step v (by omega) (fun _ => rfl)⟩
 ·simp at h
  have hx : x.toNat = n.toNat := by omega
  refine ⟨_, _, ns, rfl, ⟨by omega, hrg, fun pre ms h1 h2 h3 h4 => ?_⟩⟩
  have := hcm pre ms h1 h2 h3 h4
  rwa [List.take_of_length_le (by omega)] at this

def KS (l : List Int) (a0 er0 : Int) (s : ByteArray) (ns : List Int) (a er : Int) : Prop :=
 ∀ pre c0, c0.P → G3 l pre a0 er0 → pre ++ encC c0 <+: l → G3 l (pre ++ (leb s.size ++ (txB s ++ encN ns))) a er ∧ c0.nm = s ∧ ns <+: numC c0

theorem KS.take {l : List Int} {a0 er0 : Int} {s : ByteArray} {ns : List Int} {a er : Int} {n : Int} {ms : List Int} {a' er' : Int} (k : KS l a0 er0 s ns a er) (t : TK l a er n ms a' er')
  (h : ∀ c0, c0.P → ns <+: numC c0 → ns.length + n.toNat ≤ (numC c0).length) : KS l a0 er0 s (ns ++ ms) a' er' := by
 intro pre c0 hp hg hpre
 obtain ⟨k1, k2, ⟨u, k3⟩⟩ := k pre c0 hp hg hpre
 have hle := h c0 hp ⟨u, k3⟩
 have hul : n.toNat ≤ u.length := by rw [← k3, List.length_append] at hle; omega
 have hall := (shp_of hp).2
 have hm : ∀ m ∈ u.take n.toNat, rg40 m := fun m hm => hall m (by rw [← k3]; exact List.mem_append.2 (.inr (List.mem_of_mem_take hm)))
 have he : encC c0 = (leb s.size ++ (txB s ++ encN ns)) ++ (encN (u.take n.toNat) ++ encN (u.drop n.toNat)) := by
  have hu : encN u = encN (u.take n.toNat) ++ encN (u.drop n.toNat) := by rw [← encN_app, List.take_append_drop]
  rw [encC, ← k3, k2, encN_app, hu]
  simp only [List.append_assoc]
 rw [he, ← List.append_assoc] at hpre
 obtain ⟨t1, t2⟩ := t.cmp _ (u.take n.toNat) k1 (pre_more hpre) (by simp; omega) hm
 refine ⟨?_, k2, ?_⟩
 ·rw [encN_app, t2]; simpa using t1
 ·rw [t2, ← k3]
  exact ⟨u.drop n.toNat, by rw [List.append_assoc, List.take_append_drop]⟩


def DRf (l : List Int) (d : StD) (b : Bool) : Prop := (d.P ∧ encS d = l ∧ b = true) ∨ ((∀ d0 : StD, d0.P → encS d0 ≠ l) ∧ d = st0 ∧ b = false)

theorem one_of {l : List Int} {n : Int} (h : l.length = n.toNat) (hn : n = 1) : ∃ x, l = [x] := by
 subst hn
 match l, h with
 | [x], _ => exact ⟨x, rfl⟩
theorem two_of {l : List Int} {n : Int} (h : l.length = n.toNat) (hn : n = 2) : ∃ x y, l = [x, y] := by
 subst hn
 match l, h with
 | [x, y], _ => exact ⟨x, y, rfl⟩
theorem three_of {l : List Int} {n : Int} (h : l.length = n.toNat) (hn : n = 3) : ∃ x y z, l = [x, y, z] := by
 subst hn
 match l, h with
 | [x, y, z], _ => exact ⟨x, y, z, rfl⟩

theorem bst_eq {l m : List Int} (hl : Byts l) (hm : Byts m) : seq (bstr (bR l)) (bstr (bR m)) = decide (l = m) := by
 rw [Bool.eq_iff_iff, decide_eq_true_eq, ← bstr_inj hl hm]
 simp only [seq_eq, beq_iff_eq, toList_iff]

theorem rrdec_fn (l : List Int) (hl : l.length ≤ 100000) (hb : Byts l) : Ct Tryz.prog 80 {} [SL 1 (bR l)] (fun r => ∃ d b, r = [StD.sv d, B b] ∧ DRf l d b) := by
 have none : (∀ d0 : StD, d0.P → encS d0 = l → False) → ∃ d b, ([SV.agg [SL 21 [], I (0), I (0)], B false] : List SV) = [StD.sv d, B b] ∧ DRf l d b := fun h => ⟨st0, false, rfl, .inr ⟨h, rfl, rfl⟩⟩
 refine rrdec_nf _ _ (Cl.ofQ (rtake16_fn l 0 0 1 hl hb (by omega)) ?_)
 rintro r ⟨a1, er1, ns1, rfl, t1⟩
 obtain ⟨k, rfl⟩ := one_of t1.len rfl
 have hk : ∀ d0 : StD, d0.P → encS d0 = l → G3 l (leb d0.cs.length) a1 er1 ∧ k = d0.cs.length := by
  intro d0 hp he
  have hlen := hp.1.1
  obtain ⟨g1, g2⟩ := t1.cmp [] [(d0.cs.length : Int)] ⟨rfl, rfl, List.nil_prefix⟩ (by rw [← he]; exact ⟨d0.cs.flatMap encC ++ (leb d0.q.toNat ++ leb d0.t.toNat), by simp [encS, encN]⟩) rfl (by simp; unfold rg40; omega)
  simp [encN] at g1 g2
  exact ⟨g1, g2⟩
 refine ⟨_, _, _, _, rfl, ⟨by omega, by simp [rlen]⟩, k, rfl, ifB_intro (fun h0 => ?_) (fun h0 => ⟨⟨by omega, by simp [rlen]⟩, k, rfl, ifB_intro (fun h1 => ?_) (fun h1 => ?_)⟩)⟩
 ·simp at h0
  exact none fun d0 hp he => by have := (hk d0 hp he).2; omega
 ·simp at h1
  exact none fun d0 hp he => by have := (hk d0 hp he).2; have := hp.1.1; omega
 simp at h0 h1
 refine ⟨fun x l' a er rows q t => l' = bR l ∧ 0 ≤ x ∧ x ≤ k ∧ ∃ cs, rows = coR cs ∧ (cs.length : Int) = x ∧ (∀ c ∈ cs, c.cl.length ≤ 16) ∧
   ∀ d0 : StD, d0.P → encS d0 = l → G3 l (leb d0.cs.length ++ (d0.cs.take x.toNat).flatMap encC) a er ∧ cs = d0.cs.take x.toNat,
  fun x _ _ _ _ _ _ => (k - x).toNat, ⟨rfl, by omega, by omega, [], rfl, rfl, by simp, fun d0 hp he => ⟨by simpa using (hk d0 hp he).1, by simp⟩⟩, ?_⟩
 rintro x _ a2 er2 _ q t ⟨rfl, x0, x1, cs, rfl, hcs, hcl, hcm⟩
 refine ⟨⟨by omega, by simp [rlen]⟩, k, rfl, ifB_intro (fun hx => ?_) (fun hx => ?_)⟩
 ·simp at hx
  obtain ⟨hx, he2⟩ := hx
  -- the component that comes next in any state
  have hd : ∀ d0 : StD, d0.P → encS d0 = l → ∃ (pre : List Int) (hlt : x.toNat < d0.cs.length), pre = leb d0.cs.length ++ (d0.cs.take x.toNat).flatMap encC ∧ d0.cs[x.toNat].P ∧ G3 l pre a2 er2 ∧ pre ++ encC d0.cs[x.toNat] <+: l := by
   intro d0 hp he
   obtain ⟨g1, g2⟩ := hcm d0 hp he
   have hkl := (hk d0 hp he).2
   have hlt : x.toNat < d0.cs.length := by omega
   refine ⟨_, hlt, rfl, hp.2.1 _ (List.getElem_mem hlt), g1, ⟨(d0.cs.drop (x.toNat + 1)).flatMap encC ++ (leb d0.q.toNat ++ leb d0.t.toNat), ?_⟩⟩
   have hfm : d0.cs.flatMap encC = (d0.cs.take x.toNat).flatMap encC ++ (encC d0.cs[x.toNat] ++ (d0.cs.drop (x.toNat + 1)).flatMap encC) := by
    conv => lhs; rw [← List.take_append_drop x.toNat d0.cs]
    rw [List.flatMap_append, List.drop_eq_getElem_cons hlt, List.flatMap_cons]
   rw [← he, encS, hfm]
   simp only [List.append_assoc]
  have dead : ∀ {s : ByteArray} {ns : List Int} {a er : Int}, KS l a2 er2 s ns a er → (∀ c0, c0.P → ns <+: numC c0 → False) → ∃ d b, ([SV.agg [SL 21 [], I (0), I (0)], B false] : List SV) = [StD.sv d, B b] ∧ DRf l d b := fun hks hno =>
   none fun d0 hp he => by
    obtain ⟨pre, hlt, _, hP, hg, hpre⟩ := hd d0 hp he
    exact hno _ hP (hks pre _ hP hg hpre).2.2
  refine Cl.ofQ (rtext_fn l a2 er2 hl hb) ?_
  rintro r ⟨a3, er3, s, rfl, ho⟩
  have k3 : KS l a2 er2 s [] a3 er3 := by
   intro pre c0 hp hg hpre
   obtain ⟨t, ht⟩ := drop_pre hg.2.1 hpre
   obtain ⟨f1, f2, f3⟩ := ho.good hg.1 (by have := hg.2.1; omega) c0.nm (encN (numC c0) ++ t) (by rw [ht, encC]; simp) (shp_of hp).1.nm
   refine ⟨⟨f2, ?_, ?_⟩, f3.symm, List.nil_prefix⟩
   ·have := hg.2.1
    rw [f3]; simp [encN_nil, txB_len]; omega
   ·rw [f3, encN_nil, List.append_nil]
    rw [encC, ← List.append_assoc (leb c0.nm.size)] at hpre
    exact pre_more hpre
  refine ⟨_, _, _, _, rfl, Cl.ofQ (rtake16_fn l a3 er3 2 hl hb (by omega)) ?_⟩
  rintro r ⟨a4, er4, ns4, rfl, t4⟩
  have k4 := k3.take t4 (fun c0 _ _ => by have := numC_len (c := c0); simp; omega)
  obtain ⟨ro, mo, rfl⟩ := two_of t4.len rfl
  simp only [List.nil_append] at k4
  refine ⟨_, _, _, _, rfl, ⟨by omega, by simp [rlen]⟩, ro, rfl, ⟨by omega, by simp [rlen]⟩, mo, rfl, ?_⟩
  refine ⟨fun _ l' a' er' _ _ _ s' ro' mo' wd sl rows h0 h1 h2 h3 h4 h5 h6 h7 h8 hs rm ha c0 c1 c2 => l' = bR l ∧ s' = s ∧ ro' = ro ∧ mo' = mo ∧ (h0 = 0 ∧ h1 = 0 ∧ h2 = 0 ∧ h3 = 0 ∧ h4 = 0 ∧ h5 = 0 ∧ h6 = 0 ∧ h7 = 0 ∧ h8 = 0 ∧ hs = 0) ∧ (rm = 0 ∧ ha = 0) ∧
    ∃ cl, rows = cR cl ∧ cl.length ≤ 16 ∧ (ro ≠ 1 → wd = 0 ∧ sl = 0 ∧ cl = []) ∧ KS l a2 er2 s (bas ro mo wd sl cl) a' er',
   fun _ _ _ _ _ _ _ _ _ _ _ _ _ _ _ _ _ _ _ _ _ _ _ _ _ _ _ _ => 0, ifB_intro (fun e => ?_) (fun e => ?_), ?_⟩
  ·simp at e
   subst e
   refine Cl.ofQ (rtake16_fn l a4 er4 3 hl hb (by omega)) ?_
   rintro r ⟨a5, er5, ns5, rfl, t5⟩
   have k5 := k4.take t5 (fun c0 _ _ => by have := numC_len (c := c0); simp; omega)
   obtain ⟨wd, sl, k2, rfl⟩ := three_of t5.len rfl
   simp only [List.cons_append, List.nil_append] at k5
   have hw : ∀ c0 : CoD, c0.P → ∀ x, ([1, mo, wd, sl, k2] ++ x) <+: numC c0 → (numC c0).length = 18 + 2 * k2.toNat ∧ 0 ≤ k2 ∧ k2 ≤ 16 := fun c0 hp x hh => win_len (shp_of hp).1 hh
   refine ⟨_, _, _, _, rfl, ⟨by omega, by simp [rlen]⟩, wd, rfl, ⟨by omega, by simp [rlen]⟩, sl, rfl, ⟨by omega, by simp [rlen]⟩, k2, rfl, ifB_intro (fun g0 => ?_) (fun g0 => ⟨⟨by omega, by simp [rlen]⟩, k2, rfl, ifB_intro (fun g1 => ?_) (fun g1 => ?_)⟩)⟩
   ·simp at g0
    exact dead k5 fun c0 hp hh => by have := hw c0 hp [] (by simpa using hh); omega
   ·simp at g1
    exact dead k5 fun c0 hp hh => by have := hw c0 hp [] (by simpa using hh); omega
   simp at g0 g1
   have w2 : wmul IntKind.i64 2 k2 = 2 * k2 := wrap_i64 (by omega) (by omega)
   refine ⟨fun rows l' a' er' => l' = bR l ∧ ∃ ms, rows = nI ms ∧ (ms.length : Int) = 2 * k2 ∧ KS l a2 er2 s ([1, mo, wd, sl, k2] ++ ms) a' er', fun _ _ _ _ => 0, ⟨⟨by omega, by simp [rlen]⟩, k2, rfl, ?_⟩, ?_⟩
   ·rw [w2]
    have go : Ct Tryz.prog 150 {} [cu3 (bR l) a5 er5, I (2 * k2)] (fun r => ∃ a' er' ms, r = [cu3 (bR l) a' er', SL 1 (nI ms)] ∧ (ms.length : Int) = 2 * k2 ∧ KS l a2 er2 s ([1, mo, wd, sl, k2] ++ ms) a' er') := by
     refine (rtake16_fn l a5 er5 (2 * k2) hl hb (by omega)).mono ?_
     rintro r ⟨a6, er6, ms, rfl, t6⟩
     refine ⟨_, _, ms, rfl, by have := t6.len; omega, k5.take t6 fun c0 hp hh => ?_⟩
     have := hw c0 hp [] (by simpa using hh)
     simp; omega
    refine ⟨Cl.ofQ go ?_, Cl.ofQ go ?_⟩
    ·rintro r ⟨a6, er6, ms, rfl, h6, k6⟩
     exact ⟨_, _, _, _, rfl, rfl, rfl, ms, rfl, h6, k6⟩
    ·rintro r ⟨a6, er6, ms, rfl, h6, k6⟩
     exact ⟨_, _, _, _, rfl, rfl, rfl, ms, rfl, h6, k6⟩
   ·rintro _ _ a6 er6 ⟨rfl, ms, rfl, hms, k6⟩
    refine ⟨fun x s' ro' mo' wd' sl' rows h0 h1 h2 h3 h4 h5 h6 h7 h8 hs rm ha c0 c1 c2 => 0 ≤ x ∧ x ≤ k2 ∧ s' = s ∧ ro' = 1 ∧ mo' = mo ∧ wd' = wd ∧ sl' = sl ∧ (h0 = 0 ∧ h1 = 0 ∧ h2 = 0 ∧ h3 = 0 ∧ h4 = 0 ∧ h5 = 0 ∧ h6 = 0 ∧ h7 = 0 ∧ h8 = 0 ∧ hs = 0) ∧ (rm = 0 ∧ ha = 0) ∧
      ∃ cl, rows = cR cl ∧ (cl.length : Int) = x ∧ flat cl = ms.take (2 * x).toNat,
     fun x _ _ _ _ _ _ _ _ _ _ _ _ _ _ _ _ _ _ _ _ _ => (k2 - x).toNat, ⟨by omega, g0, rfl, rfl, rfl, rfl, rfl, ⟨rfl, rfl, rfl, rfl, rfl, rfl, rfl, rfl, rfl, rfl⟩, ⟨rfl, rfl⟩, [], rfl, rfl, rfl⟩, ?_⟩
    rintro y s ro mo wd sl _ h0 h1 h2 h3 h4 h5 h6 h7 h8 hs rm ha c0 c1 c2 ⟨y0, y1, rfl, rfl, rfl, rfl, rfl, hz, hz2, cl, rfl, hcl2, hfl⟩
    have w3 : wmul IntKind.i64 2 y = 2 * y := wrap_i64 (by omega) (by omega)
    have w4 : wadd IntKind.i64 (2 * y) 1 = 2 * y + 1 := wadd_i64 (by omega) (by omega)
    have w5 : wadd IntKind.i64 y 1 = y + 1 := wadd_i64 (by omega) (by omega)
    have hrm : rlen (nI ms) = ms.length := by simp [rlen]
    rw [w3, w4, w5]
    refine ⟨⟨by omega, by simp [rlen]⟩, k2, rfl, ifB_intro (fun hy => ?_) (fun hy => ?_)⟩
    ·simp at hy
     have hu : (2 * y).toNat < ms.length := by omega
     have hv : (2 * y + 1).toNat < ms.length := by omega
     refine ⟨⟨by omega, by rw [hrm]; omega⟩, _, rget_nI (by omega) (by omega), ⟨by omega, by rw [hrm]; omega⟩, _, rget_nI (by omega) (by omega), ?_, rfl,
      ⟨by omega, by omega, rfl, rfl, rfl, rfl, rfl, hz, hz2, cl ++ [(ms[(2 * y).toNat], ms[(2 * y + 1).toNat])], by simp [rapp], by simp; omega, ?_⟩, ?_⟩
     ·simp [lsum, rlen]; omega
     ·rw [flat_app, hfl]
      have e1 : (2 * (y + 1)).toNat = (2 * y).toNat + 1 + 1 := by omega
      have e2 : (2 * y + 1).toNat = (2 * y).toNat + 1 := by omega
      simp only [e2] at hv ⊢
      rw [e1, List.take_succ_eq_append_getElem hv, List.take_succ_eq_append_getElem hu, List.append_assoc]
      rfl
     ·show Nat.succ (k2 - (y + 1)).toNat ≤ (k2 - y).toNat; omega
    ·simp at hy
     have hyk : y = k2 := by omega
     have hfl2 : flat cl = ms := by rw [hfl, List.take_of_length_le (by omega)]
     refine ⟨rfl, rfl, rfl, rfl, rfl, hz, hz2, cl, rfl, by omega, fun h => absurd rfl h, ?_⟩
     rw [bas1, hfl2, hcl2, hyk]
     exact k6
  ·simp at e
   refine ⟨rfl, rfl, rfl, rfl, rfl, ⟨rfl, rfl, rfl, rfl, rfl, rfl, rfl, rfl, rfl, rfl⟩, ⟨rfl, rfl⟩, [], rfl, by simp, fun _ => ⟨rfl, rfl, rfl⟩, ?_⟩
   have : bas ro mo 0 0 [] = [ro, mo] := by simp [bas, e]
   rw [this]; exact k4
  rintro _ _ a5 er5 _ _ _ s ro mo wd sl _ h0 h1 h2 h3 h4 h5 h6 h7 h8 hs rm ha c0 c1 c2 ⟨rfl, rfl, rfl, rfl, hz, hz2, cl, rfl, hcl2, hcz, k5⟩
  have lenC : ∀ c0 : CoD, c0.P → ∀ x, (bas ro mo wd sl cl ++ x) <+: numC c0 → (numC c0).length = (bas ro mo wd sl cl).length + ((if ro = 1 ∨ ro = 3 then 10 else 0) + ((if ro = 2 ∨ ro = 3 then 2 else 0) + 3)) := fun c0 hp x hh => (pre_bas hh).2
  refine ⟨fun _ l' a' er' _ _ _ s' ro' mo' wd' sl' rows g0 g1 g2 g3 g4 g5 g6 g7 g8 gs rm ha c0 c1 c2 => l' = bR l ∧ s' = s ∧ ro' = ro ∧ mo' = mo ∧ wd' = wd ∧ sl' = sl ∧ rows = cR cl ∧ (rm = 0 ∧ ha = 0) ∧
    (ro ≠ 1 → ro ≠ 3 → g0 = 0 ∧ g1 = 0 ∧ g2 = 0 ∧ g3 = 0 ∧ g4 = 0 ∧ g5 = 0 ∧ g6 = 0 ∧ g7 = 0 ∧ g8 = 0 ∧ gs = 0) ∧
    KS l a2 er2 s (bas ro mo wd sl cl ++ hst ro [g0, g1, g2, g3, g4, g5, g6, g7, g8, gs]) a' er',
   fun _ _ _ _ _ _ _ _ _ _ _ _ _ _ _ _ _ _ _ _ _ _ _ _ _ _ _ _ => 0, ifB_intro (fun e => ?_) (fun e => ?_), ?_⟩
  ·simp at e
   refine Cl.ofQ (rtake16_fn l a5 er5 10 hl hb (by omega)) ?_
   rintro r ⟨a6, er6, ms, rfl, t6⟩
   have k6 := k5.take t6 (fun c0 hp hh => by rw [lenC c0 hp [] (by simpa using hh), if_pos e]; simp)
   have hms : ms.length = 10 := t6.len
   have hrm : rlen (nI ms) = ms.length := by simp [rlen]
   refine ⟨_, _, _, _, rfl, fun j s' ro' mo' wd' sl' rows g0 g1 g2 g3 g4 g5 g6 g7 g8 gs rm ha c0 c1 c2 => 0 ≤ j ∧ j ≤ 9 ∧ s' = s ∧ ro' = ro ∧ mo' = mo ∧ wd' = wd ∧ sl' = sl ∧ rows = cR cl ∧ (rm = 0 ∧ ha = 0) ∧
     [g0, g1, g2, g3, g4, g5, g6, g7, g8].take j.toNat = ms.take j.toNat,
    fun j _ _ _ _ _ _ _ _ _ _ _ _ _ _ _ _ _ _ _ _ _ => (9 - j).toNat, ⟨by omega, by omega, rfl, rfl, rfl, rfl, rfl, rfl, hz2, rfl⟩, ?_⟩
   rintro j s ro mo wd sl _ g0 g1 g2 g3 g4 g5 g6 g7 g8 gs rm ha c0 c1 c2 ⟨j0, j9, rfl, rfl, rfl, rfl, rfl, rfl, hz3, htk⟩
   refine ifB_intro (fun hj => ?_) (fun hj => ?_)
   ·simp at hj
    have hlt : j.toNat < ms.length := by omega
    have w : wadd IntKind.i64 j 1 = j + 1 := wadd_i64 (by omega) (by omega)
    rw [w]
    have step : ∀ (k : Nat) (f0 f1 f2 f3 f4 f5 f6 f7 f8 : Int), j = (k : Int) → [f0, f1, f2, f3, f4, f5, f6, f7, f8].take (k + 1) = [g0, g1, g2, g3, g4, g5, g6, g7, g8].take k ++ [ms[j.toNat]] →
      (0 ≤ j + 1 ∧ j + 1 ≤ 9 ∧ s = s ∧ ro = ro ∧ mo = mo ∧ wd = wd ∧ sl = sl ∧ cR cl = cR cl ∧ (rm = 0 ∧ ha = 0) ∧ [f0, f1, f2, f3, f4, f5, f6, f7, f8].take (j + 1).toNat = ms.take (j + 1).toNat) ∧
       Nat.le (Nat.succ (9 - (j + 1)).toNat) (9 - j).toNat := by
     intro k f0 f1 f2 f3 f4 f5 f6 f7 f8 hk hf
     have hkj : k = j.toNat := by omega
     subst hkj
     refine ⟨⟨by omega, by omega, rfl, rfl, rfl, rfl, rfl, rfl, hz3, ?_⟩, by show Nat.succ _ ≤ _; omega⟩
     rw [show (j + 1).toNat = j.toNat + 1 by omega, List.take_succ_eq_append_getElem hlt, ← htk]
     exact hf
    exact ⟨⟨j0, by rw [hrm]; omega⟩, _, rget_nI j0 (by omega), ⟨j0, hj⟩, fun e => ⟨rfl, step 0 _ _ _ _ _ _ _ _ _ e rfl⟩, fun e => ⟨rfl, step 1 _ _ _ _ _ _ _ _ _ e rfl⟩, fun e => ⟨rfl, step 2 _ _ _ _ _ _ _ _ _ e rfl⟩, fun e => ⟨rfl, step 3 _ _ _ _ _ _ _ _ _ e rfl⟩,
     fun e => ⟨rfl, step 4 _ _ _ _ _ _ _ _ _ e rfl⟩, fun e => ⟨rfl, step 5 _ _ _ _ _ _ _ _ _ e rfl⟩, fun e => ⟨rfl, step 6 _ _ _ _ _ _ _ _ _ e rfl⟩, fun e => ⟨rfl, step 7 _ _ _ _ _ _ _ _ _ e rfl⟩, fun e => ⟨rfl, step 8 _ _ _ _ _ _ _ _ _ e rfl⟩, trivial⟩
   ·simp at hj
    have : j = 9 := by omega
    subst this
    refine ⟨⟨by omega, by rw [hrm]; omega⟩, _, rget_nI (by omega) (by omega), rfl, rfl, rfl, rfl, rfl, rfl, rfl, rfl, hz3, fun q1 q2 => (e.elim q1 q2).elim, ?_⟩
    have : hst ro [g0, g1, g2, g3, g4, g5, g6, g7, g8, ms[(9 : Int).toNat]] = ms := by
     unfold hst; rw [if_pos e]
     have h9 : [g0, g1, g2, g3, g4, g5, g6, g7, g8] = ms.take 9 := htk
     have h10 : ms = ms.take 9 ++ [ms[9]] := by
      conv => lhs; rw [← List.take_of_length_le (i := 10) (l := ms) (by omega)]
      rw [List.take_succ_eq_append_getElem (by omega)]
     show [g0, g1, g2, g3, g4, g5, g6, g7, g8] ++ [ms[9]] = ms
     rw [h9, ← h10]
    rw [this]
    exact k6
  ·simp at e
   refine ⟨rfl, rfl, rfl, rfl, rfl, rfl, rfl, rfl, hz2, fun _ _ => hz, ?_⟩
   have : hst ro [h0, h1, h2, h3, h4, h5, h6, h7, h8, hs] = [] := by unfold hst; rw [if_neg (by omega)]
   rw [this, List.append_nil]
   exact k5
  rintro _ _ a6 er6 _ _ _ s ro mo wd sl _ h0 h1 h2 h3 h4 h5 h6 h7 h8 hs rm ha c0 c1 c2 ⟨rfl, rfl, rfl, rfl, rfl, rfl, rfl, hz4, hz5, k6⟩
  refine ⟨fun _ l' a' er' _ _ _ s' ro' mo' wd' sl' rows g0 g1 g2 g3 g4 g5 g6 g7 g8 gs rm ha c0 c1 c2 => l' = bR l ∧ s' = s ∧ ro' = ro ∧ mo' = mo ∧ wd' = wd ∧ sl' = sl ∧ rows = cR cl ∧ (g0 = h0 ∧ g1 = h1 ∧ g2 = h2 ∧ g3 = h3 ∧ g4 = h4 ∧ g5 = h5 ∧ g6 = h6 ∧ g7 = h7 ∧ g8 = h8 ∧ gs = hs) ∧
    (ro ≠ 2 → ro ≠ 3 → rm = 0 ∧ ha = 0) ∧ KS l a2 er2 s (bas ro mo wd sl cl ++ (hst ro [h0, h1, h2, h3, h4, h5, h6, h7, h8, hs] ++ bck ro [rm, ha])) a' er',
   fun _ _ _ _ _ _ _ _ _ _ _ _ _ _ _ _ _ _ _ _ _ _ _ _ _ _ _ _ => 0, ifB_intro (fun e => ?_) (fun e => ?_), ?_⟩
  ·simp at e
   refine Cl.ofQ (rtake16_fn l a6 er6 2 hl hb (by omega)) ?_
   rintro r ⟨a7, er7, ms, rfl, t7⟩
   have k7 := k6.take t7 (fun c0 hp hh => by
    rw [lenC c0 hp (hst ro [h0, h1, h2, h3, h4, h5, h6, h7, h8, hs]) hh, if_pos e, List.length_append, hst_len]
    simp only [List.length_cons, List.length_nil]
    by_cases q : ro = 1 ∨ ro = 3 <;> simp only [q, if_true, if_false] <;> omega)
   obtain ⟨u, v, rfl⟩ := two_of t7.len rfl
   refine ⟨_, _, _, _, rfl, ⟨by omega, by simp [rlen]⟩, u, rfl, ⟨by omega, by simp [rlen]⟩, v, rfl, rfl, rfl, rfl, rfl, rfl, rfl, rfl, rfl, ⟨rfl, rfl, rfl, rfl, rfl, rfl, rfl, rfl, rfl, rfl⟩, fun q1 q2 => (e.elim q1 q2).elim, ?_⟩
   have : bck ro [u, v] = [u, v] := by unfold bck; rw [if_pos e]
   rw [this, ← List.append_assoc]
   exact k7
  ·simp at e
   refine ⟨rfl, rfl, rfl, rfl, rfl, rfl, rfl, rfl, ⟨rfl, rfl, rfl, rfl, rfl, rfl, rfl, rfl, rfl, rfl⟩, fun _ _ => hz4, ?_⟩
   have : bck ro [rm, ha] = [] := by unfold bck; rw [if_neg (by omega)]
   rw [this, List.append_nil]
   exact k6
  rintro _ _ a7 er7 _ _ _ s ro mo wd sl _ h0 h1 h2 h3 h4 h5 h6 h7 h8 hs rm ha c0 c1 c2 ⟨rfl, rfl, rfl, rfl, rfl, rfl, rfl, ⟨rfl, rfl, rfl, rfl, rfl, rfl, rfl, rfl, rfl, rfl⟩, hz6, k7⟩
  refine Cl.ofQ (rtake16_fn l a7 er7 3 hl hb (by omega)) ?_
  rintro r ⟨a8, er8, ms, rfl, t8⟩
  have k8 := k7.take t8 (fun c0 hp hh => by
   rw [lenC c0 hp (hst ro [h0, h1, h2, h3, h4, h5, h6, h7, h8, hs] ++ bck ro [rm, ha]) hh, List.length_append, List.length_append, hst_len, bck_len]
   simp only [List.length_cons, List.length_nil]
   by_cases q : ro = 1 ∨ ro = 3 <;> by_cases q2 : ro = 2 ∨ ro = 3 <;> simp only [q, q2, if_true, if_false] <;> omega)
  have hms : ms.length = 3 := t8.len
  have hrm : rlen (nI ms) = ms.length := by simp [rlen]
  refine ⟨_, _, _, _, rfl, fun j s' ro' mo' wd' sl' rows g0 g1 g2 g3 g4 g5 g6 g7 g8 gs rm' ha' k0 k1 k2 => 0 ≤ j ∧ j ≤ 3 ∧ s' = s ∧ ro' = ro ∧ mo' = mo ∧ wd' = wd ∧ sl' = sl ∧ rows = cR cl ∧ (g0 = h0 ∧ g1 = h1 ∧ g2 = h2 ∧ g3 = h3 ∧ g4 = h4 ∧ g5 = h5 ∧ g6 = h6 ∧ g7 = h7 ∧ g8 = h8 ∧ gs = hs) ∧
    (rm' = rm ∧ ha' = ha) ∧ [k0, k1, k2].take j.toNat = ms.take j.toNat,
   fun j _ _ _ _ _ _ _ _ _ _ _ _ _ _ _ _ _ _ _ _ _ => (3 - j).toNat, ⟨by omega, by omega, rfl, rfl, rfl, rfl, rfl, rfl, ⟨rfl, rfl, rfl, rfl, rfl, rfl, rfl, rfl, rfl, rfl⟩, ⟨rfl, rfl⟩, rfl⟩, ?_⟩
  rintro j s ro mo wd sl _ h0 h1 h2 h3 h4 h5 h6 h7 h8 hs rm ha k0 k1 k2 ⟨j0, j3, rfl, rfl, rfl, rfl, rfl, rfl, ⟨rfl, rfl, rfl, rfl, rfl, rfl, rfl, rfl, rfl, rfl⟩, ⟨rfl, rfl⟩, htk⟩
  refine ifB_intro (fun hj => ?_) (fun hj => ?_)
  ·simp at hj
   have hlt : j.toNat < ms.length := by omega
   have w : wadd IntKind.i64 j 1 = j + 1 := wadd_i64 (by omega) (by omega)
   rw [w]
   have step : ∀ (k : Nat) (f0 f1 f2 : Int), j = (k : Int) → [f0, f1, f2].take (k + 1) = [k0, k1, k2].take k ++ [ms[j.toNat]] →
     (0 ≤ j + 1 ∧ j + 1 ≤ 3 ∧ s = s ∧ ro = ro ∧ mo = mo ∧ wd = wd ∧ sl = sl ∧ cR cl = cR cl ∧ (h0 = h0 ∧ h1 = h1 ∧ h2 = h2 ∧ h3 = h3 ∧ h4 = h4 ∧ h5 = h5 ∧ h6 = h6 ∧ h7 = h7 ∧ h8 = h8 ∧ hs = hs) ∧ (rm = rm ∧ ha = ha) ∧ [f0, f1, f2].take (j + 1).toNat = ms.take (j + 1).toNat) ∧
      Nat.le (Nat.succ (3 - (j + 1)).toNat) (3 - j).toNat := by
    intro k f0 f1 f2 hk hf
    have hkj : k = j.toNat := by omega
    subst hkj
    refine ⟨⟨by omega, by omega, rfl, rfl, rfl, rfl, rfl, rfl, ⟨rfl, rfl, rfl, rfl, rfl, rfl, rfl, rfl, rfl, rfl⟩, ⟨rfl, rfl⟩, ?_⟩, by show Nat.succ _ ≤ _; omega⟩
    rw [show (j + 1).toNat = j.toNat + 1 by omega, List.take_succ_eq_append_getElem hlt, ← htk]
    exact hf
   exact ⟨⟨j0, by rw [hrm]; omega⟩, _, rget_nI j0 (by omega), ⟨j0, hj⟩, fun e => ⟨rfl, step 0 _ _ _ e rfl⟩, fun e => ⟨rfl, step 1 _ _ _ e rfl⟩, fun e => ⟨rfl, step 2 _ _ _ e rfl⟩, trivial⟩
  ·simp at hj
   have : j = 3 := by omega
   subst this
   have hk3 : [k0, k1, k2] = ms := by
    rw [List.take_of_length_le (i := (3 : Int).toNat) (l := ms) (by omega)] at htk
    exact htk
   have wx : wadd IntKind.i64 x 1 = x + 1 := wadd_i64 (by omega) (by omega)
   rw [wx]
   refine ⟨?_, rfl, ⟨rfl, by omega, by omega, cs ++ [⟨s, ro, mo, wd, sl, cl, h0, h1, h2, h3, h4, h5, h6, h7, h8, hs, rm, ha, k0, k1, k2⟩], by simp [rapp], by simp; omega, ?_, ?_⟩, ?_⟩
   ·simp [lsum, rlen]; omega
   ·intro c' hc'
    rcases List.mem_append.1 hc' with q1 | q1
    ·exact hcl c' q1
    ·simp at q1; rw [q1]; exact hcl2
   ·intro d0 hp he
    obtain ⟨pre, hlt, hpe, hP, hg, hpre⟩ := hd d0 hp he
    obtain ⟨f1, f2, f3⟩ := k8 pre _ hP hg hpre
    have hnc : numC ⟨s, ro, mo, wd, sl, cl, h0, h1, h2, h3, h4, h5, h6, h7, h8, hs, rm, ha, k0, k1, k2⟩ = (bas ro mo wd sl cl ++ (hst ro [h0, h1, h2, h3, h4, h5, h6, h7, h8, hs] ++ bck ro [rm, ha])) ++ ms := by
     rw [← hk3]; simp [numC]
    rw [← hnc] at f1 f3
    have hc := numC_inj (c := ⟨s, ro, mo, wd, sl, cl, h0, h1, h2, h3, h4, h5, h6, h7, h8, hs, rm, ha, k0, k1, k2⟩) ⟨hcz, hz5, hz6⟩ (shp_of hP).1.z f2.symm f3
    rw [show (x + 1).toNat = x.toNat + 1 by omega]
    refine ⟨?_, ?_⟩
    ·rw [take_succC hlt, ← List.append_assoc, ← hpe, ← hc]
     exact f1
    ·rw [hc]
     exact take_step hlt (hcm d0 hp he).2
   ·show Nat.succ (k - (x + 1)).toNat ≤ (k - x).toNat; omega
 ·-- the end
  simp at hx
  have hend : ∀ d0 : StD, d0.P → encS d0 = l → x = k := by
   intro d0 hp he
   have := (hcm d0 hp he).1.1
   rcases Int.lt_or_le x k with h | h
   ·exact absurd this (hx h)
   ·omega
  refine Cl.ofQ (rtake16_fn l a2 er2 2 hl hb (by omega)) ?_
  rintro r ⟨a3, er3, ns3, rfl, t3⟩
  obtain ⟨q', t', rfl⟩ := two_of t3.len rfl
  have all : ∀ d0 : StD, d0.P → encS d0 = l → er3 = 0 ∧ (⟨cs, q', t'⟩ : StD) = d0 := by
   intro d0 hp he
   have hxk := hend d0 hp he
   obtain ⟨g1, g2⟩ := hcm d0 hp he
   have hkl := (hk d0 hp he).2
   rw [List.take_of_length_le (by omega)] at g1 g2
   obtain ⟨P0, _⟩ := hp
   obtain ⟨u1, u2⟩ := t3.cmp _ [d0.q, d0.t] g1 ⟨[], by rw [← he, encS]; simp [encN]⟩ rfl (by simp; unfold rg40; omega)
   simp at u2
   exact ⟨u1.1, by rw [g2, u2.1, u2.2]⟩
  refine ⟨_, _, _, _, rfl, ⟨by omega, by simp [rlen]⟩, q', rfl, ⟨by omega, by simp [rlen]⟩, t', rfl, ?_⟩
  refine ⟨fun b rows q t => rows = coR cs ∧ q = q' ∧ t = t' ∧ (b = true → ∀ d0 : StD, d0.P → encS d0 = l → False) ∧ (b = false → StD.P ⟨cs, q', t'⟩ ∧ encS ⟨cs, q', t'⟩ = l), fun _ _ _ _ => 0, ifB_intro (fun e => ?_) (fun e => ?_), ?_⟩
  ·simp at e
   exact ⟨rfl, rfl, rfl, rfl, fun _ d0 hp he => e (all d0 hp he).1, fun h => nomatch h⟩
  ·refine Cl.of (srright_fn ⟨cs, q', t'⟩) ⟨_, rfl, ifB_intro (fun hr => ?_) (fun hr => ?_)⟩
   ·simp at hr
    exact ⟨rfl, rfl, rfl, rfl, fun _ d0 hp he => hr (by rw [(all d0 hp he).2]; exact hp), fun h => nomatch h⟩
   ·simp at hr
    refine ⟨isBytes_bR hb, Cl.of (rrenc_fn ⟨cs, q', t'⟩ hr) ⟨_, rfl, isBytes_bR (byts_encS _), rfl, rfl, rfl, rfl, fun h d0 hp he => ?_, fun h => ⟨hr, ?_⟩⟩⟩
    ·have hne : encS ⟨cs, q', t'⟩ ≠ l := by
      have := bst_eq (byts_encS ⟨cs, q', t'⟩) hb
      intro hh
      simp only [sne_eq, Bool.not_eq_true'] at h
      rw [seq_eq, h] at this
      simp [hh] at this
     exact hne (by rw [(all d0 hp he).2]; exact he)
    ·have := bst_eq (byts_encS ⟨cs, q', t'⟩) hb
     simp only [sne_eq, Bool.not_eq_false'] at h
     rw [seq_eq, h] at this
     simpa using this.symm
  ·rintro b _ _ _ ⟨rfl, rfl, rfl, hbt, hbf⟩
   refine ifB_intro (fun e => ?_) (fun e => ?_)
   ·exact none (hbt e)
   ·exact ⟨⟨cs, _, _⟩, true, rfl, .inl ⟨(hbf e).1, (hbf e).2, rfl⟩⟩


theorem pre_or : ∀ (ns ms r r' : List Int), (∀ n ∈ ns, 0 ≤ n) → (∀ n ∈ ms, 0 ≤ n) → encN ns ++ r = encN ms ++ r' → ns <+: ms ∨ ms <+: ns
 | [], ms, r, r', _, _, _ => .inl List.nil_prefix
 | n :: ns, [], r, r', _, _, _ => .inr List.nil_prefix
 | n :: ns, m :: ms, r, r', h1, h2, h => by
  simp only [encN, List.flatMap_cons, List.append_assoc] at h
  obtain ⟨e1, e2⟩ := leb_inj _ _ _ _ h
  have := h1 n (by simp)
  have := h2 m (by simp)
  have e3 : n = m := by omega
  rcases pre_or ns ms r r' (fun x hx => h1 x (by simp [hx])) (fun x hx => h2 x (by simp [hx])) e2 with ⟨t, ht⟩ | ⟨t, ht⟩
  ·exact .inl ⟨t, by rw [e3, ← ht]; rfl⟩
  ·exact .inr ⟨t, by rw [e3, ← ht]; rfl⟩

theorem tx_inj {s t : ByteArray} (h : txB s = txB t) : s = t := by
 have := congrArg (fun l => bstr (bR l)) h
 simpa [bstr_tx] using this

theorem encC_inj {c d : CoD} (hc : shp c) (hd : shp d) {r r' : List Int} (h : encC c ++ r = encC d ++ r') : c = d ∧ r = r' := by
 simp only [encC, List.append_assoc] at h
 obtain ⟨e1, e2⟩ := leb_inj _ _ _ _ h
 obtain ⟨e3, e4⟩ := List.append_inj e2 (by rw [txB_len, txB_len]; exact e1)
 have hn := tx_inj e3
 have : c = d := by
  rcases pre_or _ _ _ _ (fun n hn => (hc.n n hn).1) (fun n hn => (hd.n n hn).1) e4 with h1 | h1
  ·exact numC_inj hc.z hd.z hn h1
  ·exact (numC_inj hd.z hc.z hn.symm h1).symm
 subst this
 exact ⟨rfl, List.append_cancel_left e4⟩

theorem flatC_inj : ∀ (l m : List CoD) (r r' : List Int), (∀ c ∈ l, shp c) → (∀ c ∈ m, shp c) → l.length = m.length → l.flatMap encC ++ r = m.flatMap encC ++ r' → l = m ∧ r = r'
 | [], [], r, r', _, _, _, h => ⟨rfl, by simpa using h⟩
 | [], y :: m, r, r', _, _, hl, _ => by simp at hl
 | x :: l, [], r, r', _, _, hl, _ => by simp at hl
 | x :: l, y :: m, r, r', h1, h2, hl, h => by
  simp only [List.flatMap_cons, List.append_assoc] at h
  obtain ⟨e1, e2⟩ := encC_inj (h1 x (by simp)) (h2 y (by simp)) h
  obtain ⟨e3, e4⟩ := flatC_inj l m r r' (fun c hc => h1 c (by simp [hc])) (fun c hc => h2 c (by simp [hc])) (by simpa using hl) e2
  exact ⟨by rw [e1, e3], e4⟩

theorem encS_pre {d d' : StD} (h : d.P) (h' : d'.P) {r r' : List Int} (e : encS d ++ r = encS d' ++ r') : d = d' := by
 simp only [encS, List.append_assoc] at e
 obtain ⟨e1, e2⟩ := leb_inj _ _ _ _ e
 obtain ⟨e3, e4⟩ := flatC_inj _ _ _ _ (P_shp h) (P_shp h') e1 e2
 obtain ⟨e5, e6⟩ := leb_inj _ _ _ _ e4
 obtain ⟨e7, _⟩ := leb_inj _ _ _ _ e6
 have a := h.1
 have b := h'.1
 cases d; cases d'
 simp only [StD.mk.injEq]
 dsimp only at *
 exact ⟨e3, by omega, by omega⟩

theorem encS_inj {d d' : StD} (h : d.P) (h' : d'.P) (e : encS d = encS d') : d = d' := encS_pre h h' (r := []) (r' := []) (by rw [e])

theorem encS_len {d : StD} (h : d.P) : (encS d).length ≤ 8000 ∧ 0 < (encS d).length := by
 have h1 := flatC_len (P_shp h)
 have a := h.1
 have h2 : (leb d.cs.length).length ≤ 10 := leb_small (by omega)
 have h3 : (leb d.q.toNat).length ≤ 10 := leb_small (by omega)
 have h4 : (leb d.t.toNat).length ≤ 10 := leb_small (by omega)
 have h5 := leb_pos d.cs.length
 simp only [encS, List.length_append]
 omega

theorem DSt.own {d u : StD} {g : Int} (h : d.P) (hu : DSt (encS d) u g) : u = d ∧ g = 0 := by
 rcases hu with ⟨h1, h2, h3⟩ | ⟨h1, _⟩
 ·exact ⟨encS_inj h1 h h2, h3⟩
 ·exact absurd rfl (h1 d h)

theorem DSt.lim {l : List Int} {u : StD} {g : Int} (hu : DSt l u g) : u.cs.length ≤ 12 ∧ ∀ c ∈ u.cs, c.cl.length ≤ 16 := by
 rcases hu with ⟨h1, h2, h3⟩ | ⟨h1, rfl, _⟩
 ·exact ⟨h1.1.1, fun c hc => (P_shp h1 c hc).cl⟩
 ·exact ⟨by simp, by simp⟩

def awS : StD × Int := appS ⟨[], 0, 0⟩ ⟨1, 300, 1, ⟨#[113]⟩, 2, 0, 0⟩
end Go.Proofs.YtbocfphenkidnaaGreatDoor.Row
