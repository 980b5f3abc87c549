/- Layer 5: what the functions of package event, and of its reference, do with plain data. -/
import Derived.Test.YtknnooannohflaaDoorPxIK
import Derived.Test.YtknnooannohflaaDoorProg
namespace Go.Proofs.YtknnooannohflaaDoor
open Go Go.Px Go.Proofs
set_option maxRecDepth 100000
set_option linter.unusedVariables false

def SgT : FuncId → Sig := fun _ => {}
def SvT : TypeId → Sig := fun _ => {}
abbrev ev7 (s a k : Int) (c : ByteArray) (x y z : Int) : SV := .agg [I s, I a, I k, S c, I x, I y, I z]


def manyI (k : Int) : Int := if k < 1 ∨ 10 < k then 0 else if k = 2 then 3 else if k = 3 then 2 else 1
def roleI (k : Int) : Int := if k = 1 ∨ k = 2 then 0 else if k = 3 ∨ k = 4 then 1 else if k = 5 ∨ k = 6 ∨ k = 7 then 2 else if k = 8 ∨ k = 9 ∨ k = 10 then 3 else -1
def lo1 (k : Int) : Int := if k = 1 ∨ k = 8 ∨ k = 10 then 1 else 0
def hi1 (k : Int) : Int := if k = 1 then 3 else if k = 3 ∨ k = 4 then 2 else 2147483647
def hi2 (k : Int) : Int := if k = 2 ∨ k = 3 then 2147483647 else 0
def hi3 (k : Int) : Int := if k = 2 then 2147483647 else 0
def valB (k x y z : Int) : Bool := decide (lo1 k ≤ x ∧ x ≤ hi1 k ∧ 0 ≤ y ∧ y ≤ hi2 k ∧ 0 ≤ z ∧ z ≤ hi3 k)
def someB (n : Int) : Bool := decide (0 ≤ n ∧ n ≤ 2147483647)
def namB (c : ByteArray) : Bool := decide (1 ≤ c.size ∧ c.size ≤ 24)
def chkI (s a k : Int) (c : ByteArray) (x y z : Int) : Int :=
 if manyI k = 0 then 2 else if namB c = false then 3 else if valB k x y z = false then 4 else if a < 0 ∨ 1099511627776 < a then 5 else if s < 0 ∨ 4294967296 < s then 1 else 0

theorem mlt {a b : Nat} (h : a < b) : Nat.le (Nat.succ a) b := h
theorem bor_t {a b : Bool} : bpick a true b = true ↔ a = true ∨ b = true := by cases a <;> simp
theorem bor_f {a b : Bool} : bpick a true b = false ↔ a = false ∧ b = false := by cases a <;> simp
def numL (k x y z : Int) : List (List SV) := rsub [[I x], [I y], [I z]] 0 (manyI k)

def nAt (rows : List (List SV)) (i : Nat) : Int :=
 match rows[i]? with
 | some [.val (.int _ n)] => n
 | _ => 0

def Ints (rows : List (List SV)) : Prop := ∀ r ∈ rows, ∃ n : Int, r = [I n]

theorem Ints.get {rows : List (List SV)} (h : Ints rows) {i : Nat} (hi : i < rows.length) (j : Int) (hj : j = (i : Int)) : rget rows j = [I (nAt rows i)] := by
 obtain ⟨n, hn⟩ := h rows[i] (List.getElem_mem hi); subst hj; have : rows[i]? = some [I n] := (by rw [List.getElem?_eq_getElem hi, hn]); simp [rget, nAt, this]

end Go.Proofs.YtknnooannohflaaDoor

namespace Go.Px
set_option linter.unusedVariables false

def leb (n : Nat) : List Int := if n < 128 then [(n : Int)] else ((n % 128 + 128 : Nat) : Int) :: leb (n / 128)
termination_by n
decreasing_by omega

def ofB : List Int → Nat
 | [] => 0
 | x :: l => ofB l * 128 + (x % 128).toNat


theorem Zq4 (a b : ByteArray) : a.toList = b.toList ↔ a = b := by
 rw [ByteArray.toList_eq, ByteArray.toList_eq]; constructor
 ·intro h
  cases a; cases b
  simp only [Array.toList_inj] at h; rw [h]
 ·rintro rfl; rfl
theorem seq_d (a b : ByteArray) : seq a b = decide (a = b) := by
 rw [seq_eq, Bool.eq_iff_iff]; simp [Zq4]
theorem sne_d (a b : ByteArray) : sne a b = !decide (a = b) := by
 rw [sne_eq, ← seq_eq, seq_d]

abbrev nR (l : List ByteArray) : List (List SV) := l.map fun s => [S s]
abbrev bR (l : List Int) : List (List SV) := l.map fun n => [U8 n]

def nmAt (l : List ByteArray) (i : Int) : ByteArray := l.getD i.toNat ByteArray.empty

def plc : List ByteArray → ByteArray → Nat
 | [], _ => 0
 | a :: l, s => if a = s then 1 else if plc l s = 0 then 0 else plc l s + 1

theorem Zly {l : List ByteArray} {s : ByteArray} : plc l s = 0 ↔ s ∉ l := by
 induction l with
 | nil => simp [plc]
 | cons a l ih =>
  simp only [plc, List.mem_cons, not_or]; by_cases h : a = s
  ·simp [h]
  ·have : ¬ s = a := fun e => h e.symm; simp only [h, if_false, this, not_false_eq_true, true_and]; rw [← ih]
   split <;> simp_all

theorem Zph (l : List ByteArray) (a s : ByteArray) : plc (l ++ [a]) s = if plc l s ≠ 0 then plc l s else if a = s then l.length + 1 else 0 := by
 induction l with
 | nil => simp [plc]
 | cons b l ih =>
  simp only [List.cons_append, plc, ih]; by_cases h : b = s
  ·simp [h]
  ·simp only [h, if_false]; by_cases h2 : plc l s = 0
   ·by_cases h3 : a = s <;> simp [h2, h3]
   ·simp [h2]

def nmB (c : ByteArray) : Bool := decide (1 ≤ c.size ∧ c.size ≤ 24)
def rgtB (l : List ByteArray) : Bool := decide (l.length ≤ 32 ∧ (∀ s ∈ l, nmB s = true) ∧ l.Nodup)

structure Plcs (l : List ByteArray) (es : List (ByteArray × Int)) : Prop where
 le : es.length ≤ l.length
 nd : es.length = l.length ↔ l.Nodup
 has : ∀ s, mhas es s = true ↔ s ∈ l
 get : ∀ s, mget es s = plc l s

theorem Plcs.nil : Plcs [] [] := ⟨by simp, by simp, by simp [mhas], by simp [mget, plc]⟩

theorem Zt9 {es : List (ByteArray × Int)} {k : ByteArray} {n : Int} (h : mhas es k = false) : mset es k n = es ++ [(k, n)] := by
 unfold mset
 induction es with
 | nil => rfl
 | cons e es ih => simp only [mhas, List.any_cons, Bool.or_eq_false_iff, decide_eq_false_iff_not] at h; simp only [msetR, h.1, if_false, List.cons_append]; rw [ih (by simpa [mhas] using h.2)]

theorem Plcs.old {l : List ByteArray} {es : List (ByteArray × Int)} (h : Plcs l es) {a : ByteArray} (ha : mhas es a = true) : Plcs (l ++ [a]) es := by
 have hm := (h.has a).1 ha; refine ⟨by have := h.le; simp; omega, ?_, fun s => ?_, fun s => ?_⟩
 ·have := h.le; simp only [List.length_append, List.length_cons, List.length_nil]; constructor
  ·intro e; omega
  ·intro hn; rw [List.nodup_append] at hn; exact absurd rfl (hn.2.2 a hm a (by simp))
 ·rw [h.has s]; simp only [List.mem_append, List.mem_singleton]; exact ⟨.inl, fun e => e.elim id (fun e => e ▸ hm)⟩
 ·rw [h.get s, Zph]; by_cases hp : plc l s = 0
  ·have : a ≠ s := fun e => (Zly.1 hp) (e ▸ hm)
   simp [hp, this]
  ·simp [hp]

theorem Plcs.new {l : List ByteArray} {es : List (ByteArray × Int)} (h : Plcs l es) {a : ByteArray} (ha : mhas es a = false) {n : Int} (hn : n = l.length + 1) : Plcs (l ++ [a]) (mset es a n) := by
 have hm : a ∉ l := fun e => by rw [(h.has a).2 e] at ha; cases ha
 rw [Zt9 ha]; refine ⟨by have := h.le; simp; omega, ?_, fun s => ?_, fun s => ?_⟩
 ·simp only [List.length_append, List.length_cons, List.length_nil, Nat.add_right_cancel_iff]; rw [h.nd, List.nodup_append]; simp only [List.nodup_cons, List.not_mem_nil, not_false_eq_true, List.nodup_nil, and_self, true_and, List.mem_cons, or_false]; exact ⟨fun e => ⟨e, fun x hx b hb e2 => hm (by rw [← hb, ← e2]; exact hx)⟩, fun e => e.1⟩
 ·have hs := h.has s; simp only [mhas, List.any_append, List.any_cons, List.any_nil, Bool.or_false, Bool.or_eq_true, decide_eq_true_eq, List.mem_append, List.mem_singleton] at hs ⊢; rw [hs]; exact or_congr Iff.rfl ⟨fun e => e.symm, fun e => e.symm⟩
 ·have hg := h.get s; rw [Zph]; by_cases hp : plc l s = 0
  ·have hns : mhas es s = false := by
    cases e : mhas es s with
    | false => rfl
    | true => exact absurd ((h.has s).1 e) (Zly.1 hp)
   have hf : es.find? (fun e => decide (e.1 = s)) = none := (by rw [List.find?_eq_none]; intro e he hd; simp only [mhas, List.any_eq_false] at hns; exact hns e he hd); simp only [mget, List.find?_append, hf, Option.none_or, hp, ne_eq, not_true_eq_false, if_false]; by_cases hs : a = s
   ·subst hs; simp; omega
   ·simp [hs]
  ·simp only [hp, ne_eq, not_false_eq_true, if_true]; rw [← hg]; have hns : mhas es s = true := (h.has s).2 (by rw [Zly] at hp; exact Classical.not_not.1 hp); simp only [mhas, List.any_eq_true] at hns; obtain ⟨x, hx, hd⟩ := hns; simp only [mget, List.find?_append]
   cases hf : es.find? (fun e => decide (e.1 = s)) with
   | none => exact absurd hd (List.find?_eq_none.1 hf x hx)
   | some y => simp

end Go.Px

namespace Go.Proofs.YtknnooannohflaaDoor.Cmp
open Go Go.Px Go.Proofs
set_option maxRecDepth 100000
set_option linter.unusedVariables false

def SgT : FuncId → Sig := (fun f => bif Nat.beq f 154 then ⟨[], [.own]⟩ else {})
def SvT : TypeId → Sig := fun _ => {}
abbrev win3 (wd sl : Int) (cl : List (List SV)) : SV := .agg [I wd, I sl, SL 2 cl]
abbrev his10 (h0 h1 h2 h3 h4 h5 h6 h7 h8 hs : Int) : SV := .agg [I h0, I h1, I h2, I h3, I h4, I h5, I h6, I h7, I h8, I hs]
abbrev bkt2 (rm hs : Int) : SV := .agg [I rm, I hs]
abbrev cmp21 (nm : ByteArray) (ro mo wd sl : Int) (cl : List (List SV)) (h0 h1 h2 h3 h4 h5 h6 h7 h8 hs rm ha c0 c1 c2 : Int) : SV := .agg [S nm, I ro, I mo, I wd, I sl, SL 2 cl, I h0, I h1, I h2, I h3, I h4, I h5, I h6, I h7, I h8, I hs, I rm, I ha, I c0, I c1, I c2]




def holdI (n : Int) : Int := max 0 (min n 1099511627776)
def upI (a b : Int) : Int := holdI (holdI a + holdI b)
def heldP (n : Int) : Prop := 0 ≤ n ∧ n ≤ 1099511627776
instance (n : Int) : Decidable (heldP n) := inferInstanceAs (Decidable (0 ≤ n ∧ n ≤ 1099511627776))
def bktP (rm ha : Int) : Prop := 0 ≤ rm ∧ rm ≤ 2147483647 ∧ 0 ≤ ha ∧ ha ≤ rm
instance (rm ha : Int) : Decidable (bktP rm ha) := inferInstanceAs (Decidable (_ ∧ _))
def bnewR (rm ha : Int) : List SV := if bktP rm ha then [bkt2 rm ha, I 0] else [bkt2 0 0, I 1]
def takeH (rm ha n : Int) : Int := if bktP rm ha ∧ 0 ≤ n then ha - min n ha else ha
def takeB (rm ha n : Int) : Bool := decide ((bktP rm ha ∧ 0 ≤ n) ∧ n ≤ ha)
def putH (rm ha n : Int) : Int := if bktP rm ha ∧ 0 ≤ n then ha + min n (rm - ha) else ha
def bndI (p : Int) : Int := if p = 0 then 1 else if p = 1 then 2 else if p = 2 then 4 else if p = 3 then 8 else if p = 4 then 16 else if p = 5 then 32 else if p = 6 then 64 else if p = 7 then 128 else 0
def hplI (n : Int) : Int := if n ≤ 1 then 0 else if n ≤ 2 then 1 else if n ≤ 4 then 2 else if n ≤ 8 then 3 else if n ≤ 16 then 4 else if n ≤ 32 then 5 else if n ≤ 64 then 6 else if n ≤ 128 then 7 else 8
def hisP (h0 h1 h2 h3 h4 h5 h6 h7 h8 hs : Int) : Prop := heldP h0 ∧ heldP h1 ∧ heldP h2 ∧ heldP h3 ∧ heldP h4 ∧ heldP h5 ∧ heldP h6 ∧ heldP h7 ∧ heldP h8 ∧ heldP hs
instance (h0 h1 h2 h3 h4 h5 h6 h7 h8 hs : Int) : Decidable (hisP h0 h1 h2 h3 h4 h5 h6 h7 h8 hs) := inferInstanceAs (Decidable (_ ∧ _))


def hAt (h0 h1 h2 h3 h4 h5 h6 h7 h8 x : Int) : Int := if x = 0 then h0 else if x = 1 then h1 else if x = 2 then h2 else if x = 3 then h3 else if x = 4 then h4 else if x = 5 then h5 else if x = 6 then h6 else if x = 7 then h7 else h8
def hcI (n k v : Int) : Int := if hplI n = k then upI v 1 else v
def haddS (h0 h1 h2 h3 h4 h5 h6 h7 h8 hs n : Int) : SV := if hisP h0 h1 h2 h3 h4 h5 h6 h7 h8 hs ∧ 0 ≤ n then his10 (hcI n 0 h0) (hcI n 1 h1) (hcI n 2 h2) (hcI n 3 h3) (hcI n 4 h4) (hcI n 5 h5) (hcI n 6 h6) (hcI n 7 h7) (hcI n 8 h8) (upI hs n) else his10 h0 h1 h2 h3 h4 h5 h6 h7 h8 hs


abbrev cR (l : List (Int × Int)) : List (List SV) := l.map fun c => [I c.1, I c.2]
def ceAt (l : List (Int × Int)) (i : Int) : Int × Int := l.getD i.toNat (0, 0)
def timP (n : Int) : Prop := 0 ≤ n ∧ n ≤ 1099511627776
instance (n : Int) : Decidable (timP n) := inferInstanceAs (Decidable (_ ∧ _))
def Zvy (l : List (Int × Int)) : Prop := ∀ c ∈ l, heldP c.1 ∧ heldP c.2
instance (l : List (Int × Int)) : Decidable (Zvy l) := inferInstanceAs (Decidable (∀ c ∈ l, heldP c.1 ∧ heldP c.2))
def winP (wd sl : Int) (cl : List (Int × Int)) : Prop := (1 ≤ wd ∧ wd ≤ 2147483647) ∧ timP sl ∧ (1 ≤ cl.length ∧ cl.length ≤ 16) ∧ Zvy cl
instance (wd sl : Int) (cl : List (Int × Int)) : Decidable (winP wd sl cl) := inferInstanceAs (Decidable (_ ∧ _))

def wnewR (wd n a : Int) : List SV := if ((1 ≤ wd ∧ wd ≤ 2147483647) ∧ (1 ≤ n ∧ n ≤ 16)) ∧ timP a then [win3 wd (a / wd) (cR (List.replicate n.toNat (0, 0))), I 0] else [win3 0 0 [], I 1]
def kk (slot n p : Int) : Int := slot - (slot - p) % n
def mvL (sl slot : Int) (cl : List (Int × Int)) : List (Int × Int) := (List.range cl.length).map fun p : Nat => if sl < kk slot cl.length p then (0, 0) else cl.getD p (0, 0)
def wmoveR (wd sl : Int) (cl : List (Int × Int)) (a : Int) : List SV :=
 if winP wd sl cl ∧ timP a then (if a / wd ≤ sl then [win3 wd sl (cR cl), I 0] else [win3 wd (a / wd) (cR (mvL sl (a / wd) cl)), I 0]) else [win3 wd sl (cR cl), I 1]


def getS (sl : Int) (cl : List (Int × Int)) (p : Int) : Int × Int := if (sl < p ∨ p ≤ sl - cl.length) ∨ p < 0 then (0, 0) else ceAt cl (p % cl.length)
def ceU (c : Int × Int) (ok : Bool) : Int × Int := if ok = true then (upI c.1 1, c.2) else (c.1, upI c.2 1)
def addL (cl : List (Int × Int)) (i : Int) (ok : Bool) : List (Int × Int) := cl.set i.toNat (ceU (ceAt cl i) ok)
def wadS (wd sl : Int) (cl : List (Int × Int)) (a : Int) (ok : Bool) : Int × List (Int × Int) :=
 if a / wd ≤ sl then (if a / wd ≤ sl - cl.length then (sl, cl) else (sl, addL cl ((a / wd) % cl.length) ok)) else (a / wd, addL (mvL sl (a / wd) cl) ((a / wd) % cl.length) ok)
def waddR (wd sl : Int) (cl : List (Int × Int)) (a : Int) (ok : Bool) : List SV :=
 if winP wd sl cl ∧ timP a then [win3 wd (wadS wd sl cl a ok).1 (cR (wadS wd sl cl a ok).2), I 0] else [win3 wd sl (cR cl), I 1]


structure CoD where
 nm : ByteArray
 ro : Int
 mo : Int
 wd : Int
 sl : Int
 cl : List (Int × Int)
 h0 : Int
 h1 : Int
 h2 : Int
 h3 : Int
 h4 : Int
 h5 : Int
 h6 : Int
 h7 : Int
 h8 : Int
 hs : Int
 rm : Int
 ha : Int
 c0 : Int
 c1 : Int
 c2 : Int

abbrev CoD.sv (c : CoD) : SV := cmp21 c.nm c.ro c.mo c.wd c.sl (cR c.cl) c.h0 c.h1 c.h2 c.h3 c.h4 c.h5 c.h6 c.h7 c.h8 c.hs c.rm c.ha c.c0 c.c1 c.c2
structure EvD where
 s : Int
 a : Int
 k : Int
 c : ByteArray
 x : Int
 y : Int
 z : Int
abbrev EvD.sv (e : EvD) : SV := ev7 e.s e.a e.k e.c e.x e.y e.z

def CoD.his (c : CoD) : Prop := hisP c.h0 c.h1 c.h2 c.h3 c.h4 c.h5 c.h6 c.h7 c.h8 c.hs
instance (c : CoD) : Decidable c.his := inferInstanceAs (Decidable (hisP _ _ _ _ _ _ _ _ _ _))
def CoD.his0 (c : CoD) : Prop := (c.h0 = 0 ∧ c.h1 = 0 ∧ c.h2 = 0 ∧ c.h3 = 0 ∧ c.h4 = 0 ∧ c.h5 = 0 ∧ c.h6 = 0 ∧ c.h7 = 0 ∧ c.h8 = 0) ∧ c.hs = 0
instance (c : CoD) : Decidable c.his0 := inferInstanceAs (Decidable (_ ∧ _))
def CoD.bare (c : CoD) : Prop := c.wd = 0 ∧ c.sl = 0 ∧ c.cl = []
instance (c : CoD) : Decidable c.bare := inferInstanceAs (Decidable (_ ∧ _))
def CoD.roleP (c : CoD) : Prop :=
 if c.ro = 1 then ((0 ≤ c.mo ∧ c.mo ≤ 2) ∧ winP c.wd c.sl c.cl) ∧ c.his ∧ (c.rm = 0 ∧ c.ha = 0)
 else if c.ro = 2 then ((c.mo = 0 ∧ c.bare) ∧ c.his0) ∧ bktP c.rm c.ha
 else c.ro = 3 ∧ ((0 ≤ c.mo ∧ c.mo ≤ 2147483647) ∧ c.bare) ∧ c.his ∧ bktP c.rm c.ha
instance (c : CoD) : Decidable c.roleP := by unfold CoD.roleP; infer_instance
def CoD.cntP (c : CoD) : Prop := heldP c.c0 ∧ heldP c.c1 ∧ heldP c.c2
instance (c : CoD) : Decidable c.cntP := inferInstanceAs (Decidable (_ ∧ _))
def CoD.P (c : CoD) : Prop := (namB c.nm = true ∧ c.cntP) ∧ c.roleP
instance (c : CoD) : Decidable c.P := inferInstanceAs (Decidable (_ ∧ _))

def ctAt (c0 c1 c2 x : Int) : Int := if x = 0 then c0 else if x = 1 then c1 else c2

def co0 : CoD := ⟨ByteArray.mk (Array.mk []), 0, 0, 0, 0, [], 0, 0, 0, 0, 0, 0, 0, 0, 0, 0, 0, 0, 0, 0, 0⟩
def newC (nm : ByteArray) (ro a : Int) : CoD × Int :=
 if namB nm = false then (co0, 3) else if ¬ (1 ≤ ro ∧ ro ≤ 3) then (co0, 4) else if ¬ timP a then (co0, 5)
 else if ro = 1 then ({ co0 with nm := nm, ro := ro, wd := 10, sl := a / 10, cl := [(0, 0), (0, 0), (0, 0), (0, 0)] }, 0) else ({ co0 with nm := nm, ro := ro, rm := 10, ha := 10 }, 0)

def chkE (e : EvD) : Int := chkI e.s e.a e.k e.c e.x e.y e.z
def cfgP (ro : Int) (e : EvD) : Prop := if ro = 1 then ((1 ≤ e.x ∧ 1 ≤ e.y) ∧ e.y ≤ 16) ∧ e.z = 0 else if ro = 2 then e.y ≤ e.x ∧ e.z = 0 else e.y = 0 ∧ e.z = 0
instance (ro : Int) (e : EvD) : Decidable (cfgP ro e) := by unfold cfgP; infer_instance
def mayI (c : CoD) (e : EvD) : Int :=
 if ¬ c.P then 1 else if chkE e ≠ 0 then chkE e else if e.c ≠ c.nm then 6 else if e.k = 1 then 7 else if roleI e.k ≠ 0 ∧ roleI e.k ≠ c.ro then 8 else if e.k = 2 ∧ ¬ cfgP c.ro e then 4 else 0


def cntC (c : CoD) (i : Int) : CoD := { c with c0 := if i = 0 then upI c.c0 1 else c.c0, c1 := if i = 1 then upI c.c1 1 else c.c1, c2 := if i = 2 then upI c.c2 1 else c.c2 }
def hadC (c : CoD) (n : Int) : CoD := if c.his ∧ 0 ≤ n then { c with h0 := hcI n 0 c.h0, h1 := hcI n 1 c.h1, h2 := hcI n 2 c.h2, h3 := hcI n 3 c.h3, h4 := hcI n 4 c.h4, h5 := hcI n 5 c.h5, h6 := hcI n 6 c.h6, h7 := hcI n 7 c.h7, h8 := hcI n 8 c.h8, hs := upI c.hs n } else c
def winC (c : CoD) (e : EvD) : CoD := { c with sl := (wadS c.wd c.sl c.cl e.a (ieq e.x 0)).1, cl := (wadS c.wd c.sl c.cl e.a (ieq e.x 0)).2 }
def zer (n : Nat) : List (Int × Int) := List.replicate n (0, 0)
def tellC (c : CoD) (e : EvD) : CoD :=
 if e.k = 2 then (if c.ro = 1 then { c with wd := e.x, sl := e.a / e.x, cl := zer e.y.toNat } else if c.ro = 2 then { c with rm := e.x, ha := e.y } else { c with rm := e.x, ha := e.x })
 else if e.k = 3 then cntC (hadC (winC c e) e.y) e.x
 else if e.k = 4 then (if e.x = 0 then { c with mo := e.x, sl := e.a / c.wd, cl := zer c.cl.length } else { c with mo := e.x })
 else if e.k = 5 then cntC { c with ha := takeH c.rm c.ha e.x } 0
 else if e.k = 6 then cntC c 1
 else if e.k = 7 then cntC { c with ha := putH c.rm c.ha e.x } 2
 else if e.k = 8 then cntC { c with mo := e.x, ha := takeH c.rm c.ha 1 } 0
 else if e.k = 9 then cntC (hadC c e.x) 1
 else cntC { c with mo := 0 } 2
def tellR (c : CoD) (e : EvD) : List SV := if mayI c e = 0 then [(tellC c e).sv, I 0] else [c.sv, I (mayI c e)]

structure MayOK (c : CoD) (e : EvD) : Prop where
 right : c.P
 chk : chkE e = 0
 name : e.c = c.nm
 k1 : e.k ≠ 1
 role : roleI e.k = 0 ∨ roleI e.k = c.ro
 cfg : e.k = 2 → cfgP c.ro e


def plcOK (c : CoD) (e : EvD) (p : Int) (d : CoD) : Prop := (p = -1 ∧ d = tellC c e) ∨ ((0 ≤ p ∧ p < 3) ∧ cntC d p = tellC c e)

def sameP (c d : CoD) : Prop := c.nm = d.nm ∧ c.ro = d.ro ∧ c.mo = d.mo ∧ c.wd = d.wd ∧ c.sl = d.sl ∧ c.cl = d.cl ∧ c.h0 = d.h0 ∧ c.h1 = d.h1 ∧ c.h2 = d.h2 ∧ c.h3 = d.h3 ∧ c.h4 = d.h4 ∧ c.h5 = d.h5 ∧ c.h6 = d.h6 ∧ c.h7 = d.h7 ∧ c.h8 = d.h8 ∧ c.hs = d.hs ∧ c.rm = d.rm ∧ c.ha = d.ha ∧ c.c0 = d.c0 ∧ c.c1 = d.c1 ∧ c.c2 = d.c2
instance (c d : CoD) : Decidable (sameP c d) := by unfold sameP; infer_instance


def tellD (c : CoD) (e : EvD) : CoD := if mayI c e = 0 then tellC c e else c

theorem P1 {c : CoD} (hn : namB c.nm = true) (hc : c.cntP) (hr : c.ro = 1) (h : ((0 ≤ c.mo ∧ c.mo ≤ 2) ∧ winP c.wd c.sl c.cl) ∧ c.his ∧ (c.rm = 0 ∧ c.ha = 0)) : c.P := ⟨⟨hn, hc⟩, by unfold CoD.roleP; rw [if_pos hr]; exact h⟩
theorem P2 {c : CoD} (hn : namB c.nm = true) (hc : c.cntP) (hr : c.ro = 2) (h : ((c.mo = 0 ∧ c.bare) ∧ c.his0) ∧ bktP c.rm c.ha) : c.P := ⟨⟨hn, hc⟩, by unfold CoD.roleP; rw [if_neg (by omega), if_pos hr]; exact h⟩
theorem P3 {c : CoD} (hn : namB c.nm = true) (hc : c.cntP) (hr : c.ro = 3) (h : ((0 ≤ c.mo ∧ c.mo ≤ 2147483647) ∧ c.bare) ∧ c.his ∧ bktP c.rm c.ha) : c.P := ⟨⟨hn, hc⟩, by unfold CoD.roleP; rw [if_neg (by omega), if_neg (by omega)]; exact ⟨hr, h⟩⟩

end Go.Proofs.YtknnooannohflaaDoor.Cmp
