import Derived.Test.YtgehiiginclniaaGreatDoorJT
import Derived.Test.YtgehiiginclniaaGreatDoorK15
set_option linter.all false
namespace Go.Proofs.YtgehiiginclniaaGreatDoor.Jou
open Go Go.Px Go.Proofs Cod Dsk Go.ChangeShapes Go.WideShapes Go.ChangeAt Go.RowKit
set_option maxRecDepth 100000
theorem wT65:Tryz.prog.underlying 65=some (.int .u16):=by kernel_rfl
theorem wT66:Tryz.prog.underlying 66=some (.slice 70):=by kernel_rfl
theorem c70:Tryz.prog.cellsOf 70=8:=by kernel_rfl
theorem b70:bndL Tryz.prog 70≤140737488351232:=by decide+kernel
theorem e70(n:Nat)(a:List SV):TypW Tryz.prog (n+1) 70 a=Zjx (λf s=>TypW Tryz.prog n f s) [5,51] a:=by kernel_rfl
theorem e51(n:Nat)(a:List SV):TypW Tryz.prog (n+1) 51 a=Zjx (λf s=>TypW Tryz.prog n f s) [2,2,3,9,2,2,2] a:=by kernel_rfl
theorem typ_u16W{s:SV}(c:TypVW Tryz.prog 9 65 s):∃x:Int,s=U16 x∧0≤x∧x≤65535:=by
 obtain⟨f,b,_,a⟩:=c;have a:=a (by simp[Zaz]);subst a;simp only[TypW,wT65]at b;obtain⟨x,e,d⟩:=b;exact⟨x,by simpa using e,by simp[Lit.wf,IntKind.min,IntKind.max,IntKind.signed,IntKind.bits]at d;omega⟩
theorem typ_deedW{n:Nat}{e:List SV}(h:TypW Tryz.prog (n+3) 70 e):∃d:DeD,e=d.row∧d.ok:=by
 rw[e70]at h;obtain⟨_,_,rfl,f,_,_,rfl,b,rfl⟩:=h;obtain⟨k,rfl,g,i⟩:=Zwg f;rw[e51]at b;simp only[Zjx,TypW,wT2,wT3,wT9]at b;obtain⟨_,_,rfl,⟨s,rfl,_⟩,_,_,rfl,⟨a,rfl,j⟩,_,_,rfl,⟨l,rfl,_⟩,_,_,rfl,⟨c,rfl,_⟩,_,_,rfl,⟨x,rfl,_⟩,_,_,rfl,⟨y,rfl,_⟩,_,_,rfl,⟨z,rfl,_⟩,rfl⟩:=b;exact⟨⟨k,⟨s,a,l,c,x,y,z⟩⟩,rfl,⟨g,i⟩,wf_i64 j⟩
theorem typ_deeds{n:Nat}{a:List SV}(h:TypW Tryz.prog (n+4) 66 a):∃l:List DeD,a=[SL 8 (deR l)]∧l.length≤140737488351232∧∀d∈l,d.ok:=by
 unfold TypW at h;rw[wT66]at h;obtain⟨rows,rfl,c,e⟩:=h;obtain⟨l,rfl,g⟩:=Zge (f:=DeD.row) (Q:=DeD.ok) rows (λr b=>typ_deedW (e r b));exact⟨l,by rw[c70],by have:=b70;simp at c;omega,g⟩
end Go.Proofs.YtgehiiginclniaaGreatDoor.Jou
