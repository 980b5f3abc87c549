/- The conditions of regions and of code inside a round of a loop over an iterator. -/
import Derived.Test.YtknnooannohflaaDoorPxUV
import Derived.RangeFuncWrites
import Derived.OrdersIn
import Derived.TacticsIn
import Derived.OwnWalkIn
import Derived.RangeFuncCalls
import Derived.Test.YtknnooannohflaaDoorPxIK
import Derived.RangeFuncLeaves
namespace Go.Px
open Go Go.RowKit
set_option linter.unusedVariables false

section
variable {P : Program} {X : Cx}

def onlyN (Q : Exit → Act → World → Prop) : Exit → Act → World → Prop
 | .normal, a, w => Q .normal a w
 | _, _, _ => False

end

end Go.Px

namespace Go.Px
open Go.RowKit
set_option linter.unusedVariables false

def Zv2 (P : Program) : Code → (Exit → Act → World → Prop) → Act → World → Prop
 | .seq x y, Q => bif hasRF x then Zv2 P x (Exit.then (y.wp P Q) Q) else Zv2 P y Q
 | c, Q => c.wp P Q

def Zpu : Code → Bool
 | .seq x y => !hasRF x && Zpu y
 | _ => true
def Zum : Code → Bool
 | .seq x y => bif hasRF x then Zpu x else Zum y
 | _ => false

end Go.Px

namespace Go.Px
open Go Go.RowKit
set_option linter.unusedVariables false

def BackOK (P : Program) (f : FuncId) (el : (Nat → Value) → Value) (sz : Nat) : Prop :=
 (∀ args w, (callFunc f args).run P w = .ok (.enter f args) w) ∧
 ∀ (l Bs bo : Nat) (p : Option Addr) (b off len cap : Nat) (ce : Nat → Nat → Value) (_ : 0 < len → p = some ⟨b, off, none⟩) (_ : len ≤ 4611686018427387904)
  (J : Nat → World → Prop) (Kp : World → World → Prop) (_ : ∀ W, Kp W W) (_ : ∀ {A B C : World}, Kp A B → Kp B C → Kp A C)
  (_ : ∀ k W, J k W → k < len → YieldAt Fence.wide 1 P l #[.int .i64 ((len : Int) - 1 - k), el (ce (len - 1 - k))] W fun e W' => e = .returned (.bool true) ∧ J (k + 1) W' ∧ Kp W W')
  (W : World) (_ : ∀ W', Kp W W' → W'.cell? ⟨Bs, bo, none⟩ = some (.slice p len cap)) (_ : ∀ j, j < len → ∀ i, i < sz → ∀ W', Kp W W' → W'.cell? ⟨b, off + j * sz + i, none⟩ = some (ce j i)) (_ : J 0 W),
  CallsIn Fence.wide 2 P f #[.func (.yield l) #[] #[], .pointer (some ⟨Bs, bo, none⟩)] W fun e W' => (∃ v, e = .returned v) ∧ J len W'

section
variable {P : Program}

def isRec : Obj → Bool
 | .loop _ | .deferred _ => true
 | _ => false

def Zoa (B : Nat) (W W' : World) : Prop := W.heap.size ≤ W'.heap.size ∧ ∀ (k : Nat) (o : Obj), B ≤ k → W.heap[k]? = some o → isRec o = true → W'.heap[k]? = some o

def rndPost (B : Nat) (Kp : World → World → Prop) (I : World → Prop) (W : World) : Exit → Act → World → Prop
 | .normal, _, W' => Zoa B W W' ∧ Kp W W' ∧ I W'
 | _, _, _ => False

end



section
variable {P : Program} {X : Cx}

def Zr9 (X : Cx) (sp : LoopSpec) (wr : List Nat) (st : St) (a : Act) (I : ITy (Za3 sp) Prop) (W : World) : Prop :=
 ∃ st1 a1 h ρ vals ids, FitsAt X h ρ st1 a1 W ∧ Fr wr a a1 ∧ Zdy sp st1 = some (vals, ids) ∧ Zci sp wr ids = true ∧ Za2 (Zay wr (Zah sp) 0 st.tmps) st1.tmps = true ∧
  Zat (Zah sp) st1.objs sp.fixed = Zat (Zah sp) st.objs sp.fixed ∧ Zb1 (Za3 sp) I vals (fun p => p)

theorem Zr9.made {sp : LoopSpec} {wr : List Nat} {st : St} {a : Act} {I : ITy (Za3 sp) Prop} {W W' : World} (A : Zr9 X sp wr st a I W) (hk : Keeps (fun _ => False) W W') : Zr9 X sp wr st a I W' := by
 obtain ⟨st1, a1, h, ρ, vals, ids, F, r⟩ := A; exact ⟨st1, a1, h, ρ, vals, ids, F.made hk, r⟩

def elOf (P : Program) (e : TypeId) (z : Nat) : (Nat → Value) → Value := bif Zbb P e then fun c => .agg ((List.range z).map c).toArray else fun c => c 0

theorem Fr.df {ws : List Nat} {a b : Act} {ds : List Deferred} (x : Fr ws { a with defers := ds } b) : Fr ws a b := x

end


def mkD (D : Nat) : Deferred := { target := .collected D, args := #[] }

def MFits (X : Cx) (st : St) (a : Act) (w : World) : Prop :=
 ∃ Ds : List Nat, Ds.Nodup ∧ (∀ D ∈ Ds, w.heap[D]? = some (.deferred (some [])) ∧ X.w.heap.size ≤ D) ∧ Fits { X with df := Ds.map mkD ++ X.df } st a w

section
variable {P : Program}

open Classical in
end


def ItOK (P : Program) (f : FuncId) (h : Hp) (caps : Array Value) (N : Nat) (ys : Nat → Value) : Prop :=
 (∀ args w, (callFunc f args).run P w = .ok (.enter f args) w) ∧
 ∀ (l : Nat) (J : Nat → World → Prop) (Jx : World → Prop) (_ : ∀ k W, J k W → HSub h W)
  (_ : ∀ k W, J k W → k < N → YieldAt Fence.wide 1 P l #[ys k] W fun e W' => (e = .returned (.bool true) ∧ J (k + 1) W') ∨ (e = .returned (.bool false) ∧ Jx W'))
  (W : World) (_ : J 0 W),
  CallsIn Fence.wide 2 P f (#[.func (.yield l) #[] #[]] ++ caps) W fun e W' => (∃ v, e = .returned v) ∧ (J N W' ∨ Jx W')

section
variable {P : Program}

def rndPostG (B : Nat) (I R : World → Prop) (W : World) : Exit → Act → World → Prop
 | .normal, _, W' => Zoa B W W' ∧ I W'
 | .ret, _, W' => Zoa B W W' ∧ R W'
 | _, _, _ => False

end

def ItSpec (P : Program) (fid : FuncId) (it : ItT) : Prop :=
 ∀ rows (h : Hp) (v : Value), PRep h v (.clo fid (it.caps rows)) → ∃ (caps : Array Value) (N : Nat) (yv : Nat → Value), v = .func (.func fid) #[] caps ∧ (N : Int) = it.cnt rows ∧ (∀ k, k < N → PRep h (yv k) (it.ys rows (k : Int))) ∧ ItOK P fid h caps N yv

section
variable {P : Program} {X : Cx}

open Classical in
end

end Go.Px
