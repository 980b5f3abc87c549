import Derived.Test.YtgehiiginclniaaGreatDoorJT
import Derived.Test.YtgehiiginclniaaGreatDoorK15
set_option linter.all false
namespace Go.Proofs.YtgehiiginclniaaGreatDoor.Jou
open Go Go.Px Go.Proofs Cod Dsk Cmp Go.Proofs.YtgehiiginclniaaGreatDoor.Sx Go.ChangeShapes Go.WideShapes Go.ChangeAt Go.RowKit
set_option maxRecDepth 100000
structure JoD.Sz(j:JoD):Prop where
 dk:DiD.Sz j.dk
 sg:j.sg.length<=140737488351232
 m:j.cx.m.length<=140737488351232
 cs:j.st.cs.length<=140737488351232
def v152(n:Nat)(a:List SV):TypW Tryz.prog (n+1) 152 a=∃rows,a=[.slice (Tryz.prog.cellsOf 231) rows 0]/\rows.length<=bndL Tryz.prog 231/\∀r∈rows,TypW Tryz.prog n 231 r:=Vk
def v37(n:Nat)(a:List SV):TypW Tryz.prog (n+1) 37 a=∃rows,a=[.slice (Tryz.prog.cellsOf 162) rows 0]/\rows.length<=bndL Tryz.prog 162/\∀r∈rows,TypW Tryz.prog n 162 r:=Vk
def v33(n:Nat)(a:List SV):TypW Tryz.prog (n+1) 33 a=∃rows,a=[.slice (Tryz.prog.cellsOf 96) rows 0]/\rows.length<=bndL Tryz.prog 96/\∀r∈rows,TypW Tryz.prog n 96 r:=Vk
def v34(n:Nat)(a:List SV):TypW Tryz.prog (n+1) 34 a=∃rows,a=[.slice (Tryz.prog.cellsOf 9) rows 0]/\rows.length<=bndL Tryz.prog 9/\∀r∈rows,TypW Tryz.prog n 9 r:=Vk
def i2(n:Nat)(a:List SV):TypW Tryz.prog (n+1) 2 a=∃x:Int,a=[I x]/\(Lit.int .i64 x).wf=true:=Vk
def i3(n:Nat)(a:List SV):TypW Tryz.prog (n+1) 3 a=∃x:Int,a=[I x]/\(Lit.int .i64 x).wf=true:=Vk
def i4(n:Nat)(a:List SV):TypW Tryz.prog (n+1) 4 a=∃b:Bool,a=[B b]:=Vk
def i9(n:Nat)(a:List SV):TypW Tryz.prog (n+1) 9 a=∃s:ByteArray,a=[S s]/\s.size<=reachBytes:=Vk
def z231:Tryz.prog.cellsOf 231=2:=Vk
def z162:Tryz.prog.cellsOf 162=21:=Vk
def z96:Tryz.prog.cellsOf 96=7:=Vk
def z9:Tryz.prog.cellsOf 9=1:=Vk
def y162:bndL Tryz.prog 162<=140737488351232:=by decide+kernel
def y96:bndL Tryz.prog 96<=140737488351232:=by decide+kernel
def y9:bndL Tryz.prog 9<=140737488351232:=by decide+kernel
def f162(a:List SV):TypW Tryz.prog 7 162 a=Zbo (λf s=>TypW Tryz.prog 6 f s) [9,3,2,154,157,159,160] a:=Vk
def f154(a:List SV):TypW Tryz.prog 6 154 a=Zbo (λf s=>TypW Tryz.prog 5 f s) [2,2,152] a:=Vk
def f157(a:List SV):TypW Tryz.prog 6 157 a=Zbo (λf s=>TypW Tryz.prog 5 f s) [155,2] a:=Vk
def f155(a:List SV):TypW Tryz.prog 5 155 a=Zbo (λf s=>TypW Tryz.prog 4 f s) [2,2,2,2,2,2,2,2,2] a:=Vk
def f159(a:List SV):TypW Tryz.prog 6 159 a=Zbo (λf s=>TypW Tryz.prog 5 f s) [2,2] a:=Vk
def f160(a:List SV):TypW Tryz.prog 6 160 a=Zbo (λf s=>TypW Tryz.prog 5 f s) [2,2,2] a:=Vk
def f231(a:List SV):TypW Tryz.prog 4 231 a=Zbo (λf s=>TypW Tryz.prog 3 f s) [2,2] a:=Vk
def f96(a:List SV):TypW Tryz.prog 8 96 a=Zbo (λf s=>TypW Tryz.prog 7 f s) [2,2,2,2,2,3,4] a:=Vk
def f36(a:List SV):TypW Tryz.prog 9 36 a=Zbo (λf s=>TypW Tryz.prog 8 f s) [2,2,34] a:=Vk
def f39(a:List SV):TypW Tryz.prog 9 39 a=Zbo (λf s=>TypW Tryz.prog 8 f s) [37,2,2] a:=Vk
def f41(a:List SV):TypW Tryz.prog 10 41 a=Zbo (λf s=>TypW Tryz.prog 9 f s) [24,26,33,36,39,2,2,4] a:=Vk
def typ_coW{d:List SV}(h:TypW Tryz.prog 7 162 d):∃c:CoD,d=c.row:=by
 rw[f162]at h;simp only[Zbo,f154,f157,f155,f159,f160,i2,i3,i9,v152]at h
 obtain⟨_,_,rfl,⟨nm,rfl,_⟩,_,_,rfl,⟨ro,rfl,_⟩,_,_,rfl,⟨mo,rfl,_⟩,_,_,rfl,⟨_,_,rfl,⟨wd,rfl,_⟩,_,_,rfl,⟨sl,rfl,_⟩,_,_,rfl,⟨rows,rfl,_,hr⟩,rfl⟩,_,_,rfl,
  ⟨_,_,rfl,⟨_,_,rfl,⟨a0,rfl,_⟩,_,_,rfl,⟨a1,rfl,_⟩,_,_,rfl,⟨a2,rfl,_⟩,_,_,rfl,⟨a3,rfl,_⟩,_,_,rfl,⟨a4,rfl,_⟩,_,_,rfl,⟨a5,rfl,_⟩,_,_,rfl,⟨a6,rfl,_⟩,_,_,rfl,⟨a7,rfl,_⟩,_,_,rfl,⟨a8,rfl,_⟩,rfl⟩,_,_,rfl,⟨hs,rfl,_⟩,rfl⟩,_,_,rfl,
  ⟨_,_,rfl,⟨rm,rfl,_⟩,_,_,rfl,⟨ha,rfl,_⟩,rfl⟩,_,_,rfl,⟨_,_,rfl,⟨k0,rfl,_⟩,_,_,rfl,⟨k1,rfl,_⟩,_,_,rfl,⟨k2,rfl,_⟩,rfl⟩,rfl⟩:=h
 obtain⟨l,rfl,_⟩:=Zd3 (f:=λp:Int×Int=>[I p.1,I p.2]) (Q:=λ_=>True) rows (λr e=>by
  have:=hr r e;rw[f231]at this;simp only[Zbo,i2]at this;obtain⟨_,_,rfl,⟨a,rfl,_⟩,_,_,rfl,⟨b,rfl,_⟩,rfl⟩:=this
  exact⟨(a,b),rfl,trivial⟩)
 exact⟨⟨nm,ro,mo,wd,sl,l,a0,a1,a2,a3,a4,a5,a6,a7,a8,hs,rm,ha,k0,k1,k2⟩,by rw[z231];rfl⟩
def typ_jouW{s:SV}(M:TypVW Tryz.prog 10 41 s):∃j:JoD,s=j.sv/\j.Sz:=by
 obtain⟨X,h,p,_⟩:=M;have p:=p Vk;rw[f41]at h;simp only[Zbo]at h;obtain⟨_,_,rfl,N,_,_,rfl,u,_,_,rfl,x,_,_,rfl,v,_,_,rfl,hst,_,_,rfl,y,_,_,rfl,z,_,_,rfl,A,rfl⟩:=h;obtain⟨d,w,C⟩:=typ_dskW (s:=.agg _) ⟨_,N,λ_=>rfl,λh=>absurd h (by decide+kernel)⟩;rw[e26]at u;rw[f36]at v;rw[f39]at hst;simp only[Zbo,i2,i3,i4,v33,v34,v37]at u x v hst y z A;obtain⟨_,_,rfl,⟨O,rfl,_⟩,_,_,rfl,⟨P,rfl,_⟩,rfl⟩:=u;obtain⟨k,rfl,D,E⟩:=x;obtain⟨_,_,rfl,⟨R,rfl,_⟩,_,_,rfl,⟨T,rfl,_⟩,_,_,rfl,⟨l,rfl,F,G⟩,rfl⟩:=v;obtain⟨_,_,rfl,⟨o,rfl,H,J⟩,_,_,rfl,⟨q,rfl,_⟩,_,_,rfl,⟨t,rfl,_⟩,rfl⟩:=hst;obtain⟨U,rfl,_⟩:=y;obtain⟨V,rfl,_⟩:=z;obtain⟨W,rfl⟩:=A
 obtain⟨K,rfl,_⟩:=Zd3 (f:=SgD.row) (Q:=λ_=>True) k (λr i=>by
  have:=E r i;rw[f96]at this;simp only[Zbo,i2,i3,i4]at this;obtain⟨_,_,rfl,⟨a,rfl,_⟩,_,_,rfl,⟨b,rfl,_⟩,_,_,rfl,⟨c,rfl,_⟩,_,_,rfl,⟨d,rfl,_⟩,_,_,rfl,⟨e,rfl,_⟩,_,_,rfl,⟨f,rfl,_⟩,_,_,rfl,⟨g,rfl⟩,rfl⟩:=this
  exact⟨⟨a,b,c,d,e,f,g⟩,rfl,trivial⟩)
 obtain⟨m,rfl,_⟩:=Zd3 (f:=λn:ByteArray=>[S n]) (Q:=λ_=>True) l (λr i=>by
  have:=G r i;simp only[i9]at this;obtain⟨n,rfl,_⟩:=this
  exact⟨n,rfl,trivial⟩)
 obtain⟨L,rfl,_⟩:=Zd3 (f:=CoD.row) (Q:=λ_=>True) o (λr i=>by
  obtain⟨c,e⟩:=typ_coW (J r i)
  exact⟨c,e,trivial⟩)
 have w:=SV.agg.inj w;subst w;have Y:=y96;have Z:=y9;have b3:=y162;rw[List.length_map]at D F H;exact⟨⟨d,O,P,K,⟨R,T,m⟩,⟨L,q,t⟩,U,V,W⟩,by rw[p,z96,z9,z162];rfl,C,by show K.length<=_;omega,by show m.length<=_;omega,by show L.length<=_;omega⟩
def typ_b8W{s:SV}(c:TypVW Tryz.prog 10 5 s):∃x:Int,s=U8 x/\0<=x/\x<=255:=by
 obtain⟨f,b,_,a⟩:=c;have a:=a (by simp[Za7]);subst a;simp only[TypW,wT5]at b;obtain⟨x,e,d⟩:=b;exact⟨x,by simpa using e,wf_u8 d⟩
end Go.Proofs.YtgehiiginclniaaGreatDoor.Jou
