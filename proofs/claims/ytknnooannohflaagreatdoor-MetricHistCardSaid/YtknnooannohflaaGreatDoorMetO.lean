/- Layer 26: the families of a state: what lies ahead of the region whose order is open. -/
import Derived.Test.YtknnooannohflaaGreatDoorMetN
import Derived.Test.YtknnooannohflaaGreatDoorPxAn
namespace Go.Proofs.YtknnooannohflaaGreatDoor.Met
open Go Go.Px Go.Proofs
set_option maxRecDepth 100000
set_option linter.unusedVariables false

def spine (n : Nat) : Code → List Code × Code
 | .seq (.region id ops b) c => bif Nat.beq id n then ([], .seq (.region id ops b) c) else (.region id ops b :: (spine n c).1, (spine n c).2)
 | .seq a c => (a :: (spine n c).1, (spine n c).2)
 | c => ([], c)
def headOps : Code → Array Oper
 | .seq (.region _ ops _) _ => ops
 | _ => #[]
def restOf : Code → Code
 | .seq _ c => c
 | c => c
noncomputable def l5 : List Code := (spine 5 (Tryz.f31.body.getD .skip)).1
noncomputable def tail5 : Code := (spine 5 (Tryz.f31.body.getD .skip)).2
noncomputable def ops5 : Array Oper := headOps tail5
noncomputable def rest5 : Code := restOf tail5
def LT25 : Nat → Option LoopSpec := fun k => bif Nat.beq k 3000002 then some ({} : LoopSpec) else bif Nat.beq k 53 then some { slots := [(52,false,[.int .i64]),(7,false,[.own 4])], fixed := [128] } else none

theorem body25 : Tryz.f31.body = some (seqs l5 tail5) := by kernel_rfl
theorem tail5_eq : tail5 = .seq (.region 5 ops5 true) rest5 := by kernel_rfl

def st5 (cs : List (List SV)) (s a : Int) (b : Bool) : St := St.mk ([SV.agg [SL 21 cs, I s, I a], SV.ptr 128 0, SV.slice 4 [] 1, I 0, SL 1 ([[I 2], [I 3]]), SL 1 ([[I 1], [I 3]]), SV.unk, SV.unk, SV.unk, SV.unk, SV.agg [SL 21 cs, I s, I a], B b, B (bnot b), SL 1 ([[I 2], [I 3]]), SL 1 ([[I 1], [I 3]])] ++ List.replicate 51 SV.unk) ([Prod.mk 128 (Ob.box [SL 21 cs, I s, I a]), Prod.mk 5 (Ob.own 0 [])])
def st5r (cs : List (List SV)) (s a : Int) (b : Bool) : St := St.mk ([SV.agg [SL 21 cs, I s, I a], SV.ptr 128 0, SV.slice 4 [] 1, I 1, SV.unk, SV.unk, SV.unk, SV.unk, SV.unk, SV.unk, SV.agg [SL 21 cs, I s, I a], B b, B (bnot b)] ++ List.replicate 53 SV.unk) ([Prod.mk 128 (Ob.box [SL 21 cs, I s, I a]), Prod.mk 5 (Ob.own 0 [])])

theorem front5 (cs : List (List SV)) (s a : Int) (K : Ex → St → Prop) : Cl Tryz.prog 34 sP ([SV.agg [SL 21 cs, I s, I a]]) (fun (rs : List SV) => ∃ b : Bool, (rs = [B b]) ∧ (ifB (bnot b) (K .ret (st5r cs s a b)) (K .normal (st5 cs s a b))))
  = vc Tryz.prog SgT SvT LT25 (seqs l5 .skip) (startM LT25 Tryz.f31 {} [.agg [SL 21 cs, I s, I a]]) K := by kernel_rfl

theorem fin5r (cs : List (List SV)) (s a : Int) (b : Bool) (Q : List SV → Prop) : (Q ([SL 4 [], I 1])) = fin Tryz.prog Tryz.f31 {} Q .ret (st5r cs s a b) := by kernel_rfl

theorem ok5 : (Tryz.prog.follows .mixedOrders && regionOK ops5) = true := by kernel_rfl

theorem l5n : LT25 (1000000 + 5) = none := by kernel_rfl
theorem ifB_false {x y : Prop} (h : ifB false x y) : y := h
theorem ifB_true {x y : Prop} (h : ifB true x y) : x := h

theorem mof_any (cs : List (List SV)) (s a : Int) (Q : List SV → Prop) (b : Bool) (hr : Ct Tryz.prog 34 sP [.agg [SL 21 cs, I s, I a]] (fun r => r = [B b])) (h : ifB (bnot b) (Q ([SL 4 [], I 1]))
  (vcAny Tryz.prog SgT SvT ops5 (ops5.size + 1) (Array.replicate ops5.size false) (st5 cs s a b) (fun st => vc Tryz.prog SgT SvT LT25 rest5 st (fin Tryz.prog Tryz.f31 {} Q)))) : Ct Tryz.prog 31 {} [.agg [SL 21 cs, I s, I a]] Q := by
 refine fn_of SgT SvT LT25 Tryz.f31 Tryz.func31 (by kernel_rfl) rfl ?_
 unfold vcF
 rw [body25]
 show vc Tryz.prog SgT SvT LT25 (seqs l5 tail5) (startM LT25 Tryz.f31 {} [.agg [SL 21 cs, I s, I a]]) (fin Tryz.prog Tryz.f31 {} Q)
 rw [vc_seqs, ← front5]
 refine Cl.of hr ⟨b, rfl, ifB_intro (fun h1 => ?_) (fun h1 => ?_)⟩
 ·rw [h1] at h
  have hb := ifB_true h
  show fin Tryz.prog Tryz.f31 {} Q .ret (st5r cs s a b)
  rw [← fin5r]; exact hb
 ·rw [h1] at h
  show vc Tryz.prog SgT SvT LT25 tail5 (st5 cs s a b) (fin Tryz.prog Tryz.f31 {} Q)
  rw [tail5_eq]
  exact @vc_open Tryz.prog SgT SvT LT25 5 ops5 rest5 (st5 cs s a b) (fin Tryz.prog Tryz.f31 {} Q) ok5 l5n (ifB_false h)

end Go.Proofs.YtknnooannohflaaGreatDoor.Met
