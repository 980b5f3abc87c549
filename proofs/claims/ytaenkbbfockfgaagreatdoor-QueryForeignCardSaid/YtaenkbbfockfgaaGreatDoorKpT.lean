import Derived.Test.YtaenkbbfockfgaaGreatDoorJT
import Derived.Test.YtaenkbbfockfgaaGreatDoorK13
set_option linter.all false
namespace Go.Proofs.YtaenkbbfockfgaaGreatDoor.Jou
open Go Go.Px Go.Proofs Cod Dsk Cmp Go.Proofs.YtaenkbbfockfgaaGreatDoor.Sx Go.ChangeShapes Go.WideShapes Go.ChangeAt Go.RowKit
set_option maxRecDepth 100000
structure JoD.Sz(j:JoD):Prop where
 dk:DiD.Sz j.dk
 sg:j.sg.length≤140737488351232
 m:j.cx.m.length≤140737488351232
 cs:j.st.cs.length≤140737488351232
theorem v152(n:Nat)(a:List SV):TypW Tryz.prog (n+1) 128 a=∃rows,a=[.slice (Tryz.prog.cellsOf 261) rows 0]∧rows.length≤bndL Tryz.prog 261∧∀r∈rows,TypW Tryz.prog n 261 r:=by kernel_rfl
theorem v37(n:Nat)(a:List SV):TypW Tryz.prog (n+1) 31 a=∃rows,a=[.slice (Tryz.prog.cellsOf 138) rows 0]∧rows.length≤bndL Tryz.prog 138∧∀r∈rows,TypW Tryz.prog n 138 r:=by kernel_rfl
theorem v33(n:Nat)(a:List SV):TypW Tryz.prog (n+1) 27 a=∃rows,a=[.slice (Tryz.prog.cellsOf 86) rows 0]∧rows.length≤bndL Tryz.prog 86∧∀r∈rows,TypW Tryz.prog n 86 r:=by kernel_rfl
theorem v34(n:Nat)(a:List SV):TypW Tryz.prog (n+1) 28 a=∃rows,a=[.slice (Tryz.prog.cellsOf 9) rows 0]∧rows.length≤bndL Tryz.prog 9∧∀r∈rows,TypW Tryz.prog n 9 r:=by kernel_rfl
theorem i2(n:Nat)(a:List SV):TypW Tryz.prog (n+1) 2 a=∃x:Int,a=[I x]∧(Lit.int .i64 x).wf=true:=by kernel_rfl
theorem i3(n:Nat)(a:List SV):TypW Tryz.prog (n+1) 3 a=∃x:Int,a=[I x]∧(Lit.int .i64 x).wf=true:=by kernel_rfl
theorem i4(n:Nat)(a:List SV):TypW Tryz.prog (n+1) 4 a=∃b:Bool,a=[B b]:=by kernel_rfl
theorem i9(n:Nat)(a:List SV):TypW Tryz.prog (n+1) 9 a=∃s:ByteArray,a=[S s]∧s.size≤reachBytes:=by kernel_rfl
theorem z231:Tryz.prog.cellsOf 261=2:=by kernel_rfl
theorem z162:Tryz.prog.cellsOf 138=21:=by kernel_rfl
theorem z96:Tryz.prog.cellsOf 86=7:=by kernel_rfl
theorem z9:Tryz.prog.cellsOf 9=1:=by kernel_rfl
theorem y162:bndL Tryz.prog 138≤140737488351232:=by decide+kernel
theorem y96:bndL Tryz.prog 86≤140737488351232:=by decide+kernel
theorem y9:bndL Tryz.prog 9≤140737488351232:=by decide+kernel
theorem f162(a:List SV):TypW Tryz.prog 7 138 a=Za6 (λf s=>TypW Tryz.prog 6 f s) [9,3,2,130,133,135,136] a:=by kernel_rfl
theorem f154(a:List SV):TypW Tryz.prog 6 130 a=Za6 (λf s=>TypW Tryz.prog 5 f s) [2,2,128] a:=by kernel_rfl
theorem f157(a:List SV):TypW Tryz.prog 6 133 a=Za6 (λf s=>TypW Tryz.prog 5 f s) [131,2] a:=by kernel_rfl
theorem f155(a:List SV):TypW Tryz.prog 5 131 a=Za6 (λf s=>TypW Tryz.prog 4 f s) [2,2,2,2,2,2,2,2,2] a:=by kernel_rfl
theorem f159(a:List SV):TypW Tryz.prog 6 135 a=Za6 (λf s=>TypW Tryz.prog 5 f s) [2,2] a:=by kernel_rfl
theorem f160(a:List SV):TypW Tryz.prog 6 136 a=Za6 (λf s=>TypW Tryz.prog 5 f s) [2,2,2] a:=by kernel_rfl
theorem f231(a:List SV):TypW Tryz.prog 4 261 a=Za6 (λf s=>TypW Tryz.prog 3 f s) [2,2] a:=by kernel_rfl
theorem f96(a:List SV):TypW Tryz.prog 8 86 a=Za6 (λf s=>TypW Tryz.prog 7 f s) [2,2,2,2,2,3,4] a:=by kernel_rfl
theorem f36(a:List SV):TypW Tryz.prog 9 30 a=Za6 (λf s=>TypW Tryz.prog 8 f s) [2,2,28] a:=by kernel_rfl
theorem f39(a:List SV):TypW Tryz.prog 9 33 a=Za6 (λf s=>TypW Tryz.prog 8 f s) [31,2,2] a:=by kernel_rfl
theorem f41(a:List SV):TypW Tryz.prog 10 35 a=Za6 (λf s=>TypW Tryz.prog 9 f s) [24,26,27,30,33,2,2,4] a:=by kernel_rfl
theorem typ_coW{d:List SV}(h:TypW Tryz.prog 7 138 d):∃c:CoD,d=c.row:=by
 rw[f162]at h;simp only[Za6,f154,f157,f155,f159,f160,i2,i3,i9,v152]at h
 obtain⟨_,_,rfl,⟨nm,rfl,_⟩,_,_,rfl,⟨ro,rfl,_⟩,_,_,rfl,⟨mo,rfl,_⟩,_,_,rfl,⟨_,_,rfl,⟨wd,rfl,_⟩,_,_,rfl,⟨sl,rfl,_⟩,_,_,rfl,⟨rows,rfl,_,hr⟩,rfl⟩,_,_,rfl,
  ⟨_,_,rfl,⟨_,_,rfl,⟨a0,rfl,_⟩,_,_,rfl,⟨a1,rfl,_⟩,_,_,rfl,⟨a2,rfl,_⟩,_,_,rfl,⟨a3,rfl,_⟩,_,_,rfl,⟨a4,rfl,_⟩,_,_,rfl,⟨a5,rfl,_⟩,_,_,rfl,⟨a6,rfl,_⟩,_,_,rfl,⟨a7,rfl,_⟩,_,_,rfl,⟨a8,rfl,_⟩,rfl⟩,_,_,rfl,⟨hs,rfl,_⟩,rfl⟩,_,_,rfl,
  ⟨_,_,rfl,⟨rm,rfl,_⟩,_,_,rfl,⟨ha,rfl,_⟩,rfl⟩,_,_,rfl,⟨_,_,rfl,⟨k0,rfl,_⟩,_,_,rfl,⟨k1,rfl,_⟩,_,_,rfl,⟨k2,rfl,_⟩,rfl⟩,rfl⟩:=h
 obtain⟨l,rfl,_⟩:=Zdp (f:=λp:Int×Int=>[I p.1,I p.2]) (Q:=λ_=>True) rows (λr e=>by
  have:=hr r e;rw[f231]at this;simp only[Za6,i2]at this;obtain⟨_,_,rfl,⟨a,rfl,_⟩,_,_,rfl,⟨b,rfl,_⟩,rfl⟩:=this
  exact⟨(a,b),rfl,trivial⟩)
 exact⟨⟨nm,ro,mo,wd,sl,l,a0,a1,a2,a3,a4,a5,a6,a7,a8,hs,rm,ha,k0,k1,k2⟩,by rw[z231];rfl⟩
theorem typ_jouW{s:SV}(L:TypVW Tryz.prog 10 35 s):∃j:JoD,s=j.sv∧j.Sz:=by
 obtain⟨V,h,p,_⟩:=L;have p:=p (by kernel_rfl);rw[f41]at h;simp only[Za6]at h;obtain⟨_,_,rfl,hd,_,_,rfl,u,_,_,rfl,w,_,_,rfl,hx,_,_,rfl,hst,_,_,rfl,x,_,_,rfl,y,_,_,rfl,z,rfl⟩:=h;obtain⟨d,v,A⟩:=typ_dskW (s:=.agg _) ⟨_,hd,λ_=>rfl,λh=>absurd h (by decide+kernel)⟩;rw[e26]at u;rw[f36]at hx;rw[f39]at hst;simp only[Za6,i2,i3,i4,v33,v34,v37]at u w hx hst x y z;obtain⟨_,_,rfl,⟨M,rfl,_⟩,_,_,rfl,⟨N,rfl,_⟩,rfl⟩:=u;obtain⟨k,rfl,C,D⟩:=w;obtain⟨_,_,rfl,⟨O,rfl,_⟩,_,_,rfl,⟨P,rfl,_⟩,_,_,rfl,⟨l,rfl,E,F⟩,rfl⟩:=hx;obtain⟨_,_,rfl,⟨o,rfl,G,H⟩,_,_,rfl,⟨q,rfl,_⟩,_,_,rfl,⟨t,rfl,_⟩,rfl⟩:=hst;obtain⟨R,rfl,_⟩:=x;obtain⟨T,rfl,_⟩:=y;obtain⟨U,rfl⟩:=z
 obtain⟨J,rfl,_⟩:=Zdp (f:=SgD.row) (Q:=λ_=>True) k (λr i=>by
  have:=D r i;rw[f96]at this;simp only[Za6,i2,i3,i4]at this;obtain⟨_,_,rfl,⟨a,rfl,_⟩,_,_,rfl,⟨b,rfl,_⟩,_,_,rfl,⟨c,rfl,_⟩,_,_,rfl,⟨d,rfl,_⟩,_,_,rfl,⟨e,rfl,_⟩,_,_,rfl,⟨f,rfl,_⟩,_,_,rfl,⟨g,rfl⟩,rfl⟩:=this
  exact⟨⟨a,b,c,d,e,f,g⟩,rfl,trivial⟩)
 obtain⟨m,rfl,_⟩:=Zdp (f:=λn:ByteArray=>[S n]) (Q:=λ_=>True) l (λr i=>by
  have:=F r i;simp only[i9]at this;obtain⟨n,rfl,_⟩:=this
  exact⟨n,rfl,trivial⟩)
 obtain⟨K,rfl,_⟩:=Zdp (f:=CoD.row) (Q:=λ_=>True) o (λr i=>by
  obtain⟨c,e⟩:=typ_coW (H r i)
  exact⟨c,e,trivial⟩)
 have v:=SV.agg.inj v;subst v;have W:=y96;have X:=y9;have b3:=y162;rw[List.length_map]at C E G;exact⟨⟨d,M,N,J,⟨O,P,m⟩,⟨K,q,t⟩,R,T,U⟩,by rw[p,z96,z9,z162];rfl,A,by show J.length≤_;omega,by show m.length≤_;omega,by show K.length≤_;omega⟩
