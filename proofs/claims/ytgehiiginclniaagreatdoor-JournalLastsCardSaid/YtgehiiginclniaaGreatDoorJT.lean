import Derived.Test.YtgehiiginclniaaGreatDoorK14
import Derived.ProofKit
set_option linter.all false
namespace Go.Proofs.YtgehiiginclniaaGreatDoor.Jou
open Go Go.Px Go.Proofs Cod Dsk Go.ChangeShapes Go.WideShapes Go.ChangeAt Go.RowKit
set_option maxRecDepth 100000
theorem own:ownKnob Tryz.prog.godebug=none:=by kernel_rfl
theorem mlaid:(laidOutB Tryz.prog&&mapsRowed Tryz.prog)=true:=by kernel_rfl
theorem laidOut:laidOutB Tryz.prog=true:=(Bool.and_eq_true_iff.1 mlaid).1
theorem mrow:mapsRowed Tryz.prog=true:=(Bool.and_eq_true_iff.1 mlaid).2
theorem wT3:Tryz.prog.underlying 3=some (.int .i64):=by kernel_rfl
theorem wT5:Tryz.prog.underlying 5=some (.int .u8):=by kernel_rfl
theorem wT9:Tryz.prog.underlying 9=some .string:=by kernel_rfl
theorem wT25:Tryz.prog.underlying 72=some (.slice 5):=by kernel_rfl
theorem wT26:Tryz.prog.underlying 27=some (.slice 3):=by kernel_rfl
theorem c3:Tryz.prog.cellsOf 3=1:=by kernel_rfl
theorem c5W:Tryz.prog.cellsOf 5=1:=by kernel_rfl
theorem b3:bndL Tryz.prog 3=140737488351232:=by kernel_rfl
theorem b5:bndL Tryz.prog 5=140737488351232:=by kernel_rfl
theorem Zge{c:Type}{f:c→List SV}{Q:c→Prop}:∀(rows:List (List SV)),(∀r∈rows,∃a,r=f a∧Q a)→∃l:List c,rows=l.map f∧∀a∈l,Q a
 | [],_=>⟨[],rfl,by simp⟩
 |r::rows,h=>by
  obtain⟨a,rfl,g⟩:=h r (by simp);obtain⟨l,rfl,i⟩:=Zge rows (λr e=>h r (by simp[e]));refine⟨a::l,rfl,λb d=>?_⟩
  rcases List.mem_cons.1 d with rfl|d
  ·exact g
  ·exact i b d
theorem Zwg{n:Nat}{a:List SV}(h:TypW Tryz.prog (n+1) 5 a):∃x:Int,a=[U8 x]∧0≤x∧x≤255:=by
 simp only[TypW,wT5]at h;obtain⟨x,h,b⟩:=h;exact⟨x,h,wf_u8 b⟩
theorem typ_i64sW{n:Nat}{a:List SV}(h:TypW Tryz.prog (n+1) 3 a):∃x:Int,a=[I x]∧-9223372036854775808≤x∧x≤9223372036854775807:=by
 simp only[TypW,wT3]at h;obtain⟨x,h,b⟩:=h;exact⟨x,h,wf_i64 b⟩
theorem typ_intsW{n:Nat}{a:List SV}(h:TypW Tryz.prog (n+2) 27 a):∃l:List Int,a=[SL 1 (l.map λk=>[I k])]∧l.length≤140737488351232:=by
 unfold TypW at h;rw[wT26]at h;obtain⟨rows,rfl,b,d⟩:=h
 obtain⟨l,rfl,_⟩:=Zge (f:=λk:Int=>[I k]) (Q:=λ_=>True) rows (λr c=>by
  obtain⟨x,rfl,_⟩:=typ_i64sW (d r c)
  exact⟨x,rfl,trivial⟩)
 exact⟨l,by rw[c3],by rw[b3]at b;simpa using b⟩
theorem typ_intW{s:SV}(b:TypVW Tryz.prog 9 27 s):∃l:List Int,s=SL 1 (l.map λk=>[I k])∧l.length≤140737488351232:=by
 obtain⟨f,c,_,a⟩:=b;have a:=a (by simp[Zaz]);subst a;obtain⟨l,e,d⟩:=typ_intsW c;exact⟨l,by simpa using e,d⟩
theorem wT2:Tryz.prog.underlying 2=some (.int .i64):=by kernel_rfl
theorem uB:Tryz.prog.underlying 4=some .bool:=by kernel_rfl
theorem typ_u8W{s:SV}(c:TypVW Tryz.prog 9 5 s):∃x:Int,s=U8 x∧0≤x∧x≤255:=by
 obtain⟨f,b,_,a⟩:=c;have a:=a (by simp[Zaz]);subst a;simp only[TypW,wT5]at b;obtain⟨x,e,d⟩:=b;exact⟨x,by simpa using e,wf_u8 d⟩
end Go.Proofs.YtgehiiginclniaaGreatDoor.Jou
