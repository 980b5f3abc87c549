import Derived.Test.YtaenkbbfockfgaaGreatDoorK11
set_option linter.all false
set_option maxRecDepth 100000
variable{b i j k:Int}{m n:Nat}{Q:Go.Px.QQ}{s t:BA}{Y y:List Go.Px.FiD}{d:Go.Px.DiD}{o:Bool}{f:Go.Px.FiD}{g:Go.Proofs.YtaenkbbfockfgaaGreatDoor.Sx.StD}{D:Go.Proofs.YtaenkbbfockfgaaGreatDoor.Seg.Sc}
namespace Go.Proofs.YtaenkbbfockfgaaGreatDoor
namespace Dsk
open Go Go.Px Go.Proofs Ins Tryz
def cnan_fn(s:BA):Ct prog 180 {} [S s] (λr=>r=[B false]):=by
 refine cnan_nf ?_;simp
def Zsc(s t:BA):Ct prog 117 {} [S s,S t] (λr=>r=[I (if nlt s t then-1 else if nlt t s then 1 else 0)]):=by
 refine Zry (Cl.of (cnan_fn s) ⟨_,rfl,Cl.of (cnan_fn t) ⟨_,rfl,?_⟩⟩);show ifB (slt s t) _ _;rw[slt_d,sgt_d];exact ifB_d (λh=>by rw[if_pos h]) (λh=>ifB_d (λk=>by rw[if_neg h,if_pos k]) (λk=>by rw[if_neg h,if_neg k]))
def Zu2(f:FiD)(s:BA):Ct prog 330 {} [.agg f.row,S s] (λr=>r=[I (if nlt f.nm s then-1 else if nlt s f.nm then 1 else 0)]):=
 dins1_nf (Cl.of (Zsc _ _) ⟨_,rfl,rfl⟩)
def half(h:n+m<=9223372036854775807):wcv .i64 (wshr .u64 (wcv .u64 (wadd .i64 (n:Int) (m:Int))) 1)=(((n+m)/2:Nat):Int):=by
 rw[Zkf _ _ h];have e1:wcv .u64 ((n+m:Nat):Int)=((n+m:Nat):Int):=(by simp only[wcv,IntKind.wrap,IntKind.signed,IntKind.bits];simp;omega);rw[e1];have e2:wshr .u64 ((n+m:Nat):Int) 1=(((n+m)/2:Nat):Int):=(by simp only[wshr,IntKind.bits];simp;rw[Int.fdiv_eq_ediv_of_nonneg _ Vo]);rw[e2];unfold wcv;exact Zbj Vo Vo
def Zx4(l:List FiD)(g:srt FiD.nm l)(m:l.length<=1000000)(s:BA):Ct prog 329 {} [SL 3 (fR l),S s,.clo 330 []] (λr=>∃b:Bool,r=[I ((ahd FiD.nm l s).length:Nat),B b]):=by
 refine Zxx ⟨λx y=>∃i j:Nat,x=i/\y=j/\i<=(ahd FiD.nm l s).length/\(ahd FiD.nm l s).length<=j/\j<=l.length,λx y=>y.toNat-x.toNat,⟨0,l.length,rfl,Vs,Vo,Zo8,Vo⟩,?_⟩;rintro _ _ ⟨i,j,rfl,rfl,h1,h2,h3⟩;refine Zaa (λh=>?_) (λh=>?_)
 .simp at h;rw[half Vo];have f:(i+j)/2<l.length:=Vo;refine⟨Vo,⟨Vo,Vm⟩,_,_,_,Zah _ _ _ f,Cl.of (Zu2 _ s) ⟨_,rfl,Zaa (λa=>⟨rfl,?_,?_⟩) (λa=>⟨rfl,⟨i,(i+j)/2,rfl,rfl,h1,?_,Vo⟩,stepL Vm⟩)⟩⟩
  .rw[waddN _];refine⟨(i+j)/2+1,j,rfl,rfl,?_,h2,h3⟩
   have:nlt l[(i+j)/2].nm s:=by
    refine W5 λc=>?_;rw[if_neg c]at a
    split at a<;>simp at a
   have:=(Zo7 (s:=s) g f).2 this;omega
  .rw[waddN _];exact stepL Vm
  .have c:¬nlt l[(i+j)/2].nm s:=λc=>by rw[if_pos c]at a;simp at a
   have:¬((i+j)/2<(ahd FiD.nm l s).length):=λk=>c ((Zo7 (s:=s) g f).1 k);omega
 .simp at h;have e:i=(ahd FiD.nm l s).length:=Vo;refine Zaa (λa=>?_) (λa=>⟨_,by rw[<-e]⟩);have a:i<l.length:=(by simpa using a);exact⟨⟨Vo,by simpa using a⟩,_,_,_,Zah _ _ _ a,Cl.of (Zu2 _ s) ⟨_,rfl,_,by rw[<-e]⟩⟩
def Zx5(l:List FiD)(c:srt FiD.nm l)(a:l.length<=1000000)(f:FiD):Ct prog 276 OO [SL 3 (fR l),.agg f.row] (λr=>r=[SL 3 (fR (insB FiD.nm l f))]):=by
 refine Zxw (Cl.ofQ (Zx4 l c a f.nm) ?_);rintro _ ⟨b,rfl⟩;refine⟨_,_,rfl,Cl.of (Zyj (fR l) (ahd FiD.nm l f.nm).length f.row (by simpa using Zo8) (by simpa using a) ovl_file) ⟨_,rfl,?_⟩⟩;rw[insB_at];simp[List.map_take,List.map_drop]
section
variable{d:DiD}(hp:d.P)
include hp
def flen(a:n<d.fs.length):d.fs[n].len<=65536:=by
 have:=Zfu (List.getElem_mem a);have:=hp.2.1;have:=hp.1.2.2.1;omega
def set_eq(a:n<d.fs.length)(f:FiD)(e:f.nm=d.fs[n].nm):rset (fR d.fs) (n:Nat) f.row=fR (withB FiD.nm d.fs f):=by
 rw[Zt9,Zh6 hp.2.2.2 a e]
def dapp1_fn(a:n<d.fs.length)(x:List UInt8)(hx:x.length<=65536):
  Ct prog 328 OO [SL 3 (fR d.fs),.ref 0 [I (n:Nat)],.ref 0 [S d.fs[n].nm],.ref 0 [SL 1 (uR x)]] (λr=>r=[SL 3 (fR (withB FiD.nm d.fs ⟨d.fs[n].nm,d.fs[n].su,d.fs[n].lo++x⟩))]):=by
 have b:(0:Int)<=(n:Nat)/\((n:Nat):Int)<rlen (fR d.fs):=⟨Vo,by simpa using a⟩
 have c:=flen hp a;refine dapp1_nf ⟨b,b,_,_,_,Zah _ _ _ a,Cl.of (concat3 _ _ x (by unfold FiD.len at c;omega)) ⟨_,rfl,?_⟩⟩;rw[List.append_assoc,rlen_eq,Zi8];refine Cl.of (Zla _ _ _) ⟨_,_,_,rfl,b,b,?_⟩;exact congrArg (λz=>[SL 3 z]) (set_eq hp a _ rfl)
def dsyn1_fn(a:n<d.fs.length):
  Ct prog 253 OO [SL 3 (fR d.fs),.ref 0 [I (n:Nat)],.ref 0 [S d.fs[n].nm]] (λr=>r=[SL 3 (fR (withB FiD.nm d.fs ⟨d.fs[n].nm,d.fs[n].su++d.fs[n].lo,[]⟩))]):=by
 have b:(0:Int)<=(n:Nat)/\((n:Nat):Int)<rlen (fR d.fs):=⟨Vo,by simpa using a⟩
 have c:=flen hp a;refine dsyn1_nf ⟨b,b,_,_,_,Zah _ _ _ a,Cl.of (Zs7 _ _ (by unfold FiD.len at c;omega)) ⟨_,rfl,Cl.of (Zo2 _ Vo) ⟨_,rfl,?_⟩⟩⟩;have:=Zx8 d.fs[n].nm (d.fs[n].su++d.fs[n].lo);rw[show(d.fs[n].su++d.fs[n].lo).length=d.fs[n].len by simp[FiD.len]]at this;refine Cl.of this ⟨_,_,_,rfl,b,b,?_⟩;exact congrArg (λz=>[SL 3 z]) (set_eq hp a _ rfl)
def drem1_fn(a:n<d.fs.length):Ct prog 249 OO [SL 3 (fR d.fs),.ref 0 [I (n:Nat)]] (λr=>r=[SL 3 (fR (wout FiD.nm d.fs d.fs[n].nm))]):=by
 have b:=hp.1.1;refine drem1_nf ?_;rw[waddN _];refine Cl.of (Zx2 (fR d.fs) n (n+1) Vo Vm) ⟨_,rfl,?_⟩;rw[Ziz hp.2.2.2 a];simp[List.map_take,List.map_drop]
def dcre1_fn(s:BA)(a:∀f∈d.fs,f.nm≠s):Ct prog 275 OO [SL 3 (fR d.fs),.ref 0 [S s]] (λr=>r=[SL 3 (fR (withB FiD.nm d.fs ⟨s,[],[]⟩))]):=by
 have b:=hp.1.1;refine dcre1_nf (Cl.of (Zx5 d.fs hp.2.2.2 Vo ⟨s,[],[]⟩) ⟨_,rfl,?_⟩);rw[Zer a]
def dcut1_fn(a:n<d.fs.length)(i:Nat)(e:i<=d.fs[n].len):
  Ct prog 251 OO [SL 3 (fR d.fs),.ref 0 [I (n:Nat)],.ref 0 [S d.fs[n].nm],.ref 0 [I (i:Nat)]] (λr=>r=[SL 3 (fR (withB FiD.nm d.fs ⟨d.fs[n].nm,d.fs[n].su.take i,d.fs[n].lo.take (i-d.fs[n].su.length)⟩))]):=by
 have b:(0:Int)<=(n:Nat)/\((n:Nat):Int)<rlen (fR d.fs):=⟨Vo,by simpa using a⟩
 have c:=flen hp a;refine dcut1_nf ⟨b,b,_,_,_,Zah _ _ _ a,Cl.of (Zs7 _ _ (by unfold FiD.len at c;omega)) ⟨_,rfl,⟨Vo,Vo,by simp[FiD.len]at e|-;omega⟩,?_⟩⟩;rw[Zjx];have e1:List.drop (Int.toNat 0) (List.take ((i:Int)).toNat (d.fs[n].su++d.fs[n].lo))=d.fs[n].su.take i++d.fs[n].lo.take (i-d.fs[n].su.length):=(by simp[List.take_append]);have e2:imin (i:Int) (rlen (uR d.fs[n].su))=((d.fs[n].su.take i).length:Nat):=(by rw[imin_eq,rlen_eq,Zi8,List.length_take];omega);rw[e1,e2];refine Cl.of (Zla _ _ _) ⟨_,_,_,rfl,b,b,?_⟩;exact congrArg (λz=>[SL 3 z]) (set_eq hp a _ rfl)
end
section
variable(d:DiD)(h:d.ok)
include h
def Zn3(s:BA):Ct prog 67 {} [d.sv,S s] (λr=>r=[SL 1 (uR (Zft d s).1),I (Zft d s).2]):=by
 refine dread_nf (Cl.of (Zmy d h s) ⟨_,rfl,Zaa (λa=>?_) (λa=>?_)⟩)
 .simp at a;simp[Zft,a]
 .simp at a;have b:=(Zcr.1 a).1;have g:=b.1.1;refine Cl.of (Zek d Vo s) ⟨_,rfl,?_⟩
  rcases d.get_cases s with⟨e1,e2,f⟩|⟨i,hi,e2,e1,f⟩
  .rw[e2];refine Zaa (λ_=>by simp[Zft,a,e1]) (λk=>by simp at k)
  .rw[e2]
   have c:(0:Int)<=(i:Nat)/\((i:Nat):Int)<rlen (fR d.fs):=⟨Vo,by simpa using hi⟩
   have e:=flen b hi;refine Zaa (λk=>by simp at k) (λ_=>⟨c,_,_,_,Zah _ _ _ hi,c,_,_,_,Zah _ _ _ hi,Cl.of (Zs7 _ _ (by unfold FiD.len at e;omega)) ⟨_,rfl,by simp[Zft,a,e1]⟩⟩)
def Zxo(s:BA):Ct prog 197 {} [d.sv,S s] (λr=>r=[(Zbe d s).1.sv,I (Zbe d s).2]):=by
 refine Zxt (Cl.of (Zmy d h s) ⟨_,rfl,Zaa (λa=>?_) (λa=>?_)⟩)
 .simp at a;simp[Zbe,a]
 .simp at a;have b:=(Zcr.1 a).1;have f:=b.1.1;refine Cl.of (Zek d Vo s) ⟨_,rfl,?_⟩
  rcases d.get_cases s with⟨e1,e2,c⟩|⟨i,hi,e2,e1,c⟩
  .rw[e2];refine Zaa (λk=>by simp at k) (λ_=>Zaa (λk=>?_) (λk=>?_))
   .have k:d.fs.length=64:=(by simp at k;omega);simp[Zbe,a,e1,k]
   .have k:¬d.fs.length=64:=λe=>by simp[e]at k
    refine Cl.of (Zdl d Vo b.1.2.2.2 h.2.2 275 _ _ (λ_=>dcre1_fn b s c)) ⟨_,_,_,_,_,rfl,?_⟩;simp[Zbe,a,e1,k]
  .rw[e2];refine Zaa (λ_=>by simp[Zbe,a,e1]) (λk=>by simp at k)
def Zxp(s:BA)(x:List UInt8)(hx:x.length<=9223372036854775807):Ct prog 274 {} [d.sv,S s,SL 1 (uR x)] (λr=>r=[(Zau d s x).1.sv,I (Zau d s x).2]):=by
 refine Zxu (Cl.of (Zmy d h s) ⟨_,rfl,Zaa (λa=>?_) (λa=>?_)⟩)
 .simp at a;simp[Zau,a]
 .simp at a;have b:=(Zcr.1 a).1;have l:=b.1.1;refine Cl.of (Zek d Vo s) ⟨_,rfl,?_⟩
  rcases d.get_cases s with⟨e1,e2,c⟩|⟨i,hi,e2,e1,c⟩
  .rw[e2];refine Zaa (λ_=>by simp[Zau,a,e1]) (λk=>by simp at k)
  .rw[e2];refine Zaa (λk=>by simp at k) (λ_=>Cl.of (Zo3 d h) ⟨_,rfl,?_⟩);have m:=b.2.1;have j:=b.1.2.2.1;have g:=b.1.2.1;rw[Zap,rlen_eq,Zi8];refine Zaa (λk=>?_) (λk=>?_)
   .simp at k;simp[Zau,a,e1,k]
   .simp at k;have e:¬d.rm-usedL d.fs<x.length:=Vo;subst c;have f:=dapp1_fn b hi x Vo;refine Cl.of (Zdl d Vo b.1.2.2.2 h.2.2 328 _ _ (λ_=>f)) ⟨_,_,_,_,_,rfl,?_⟩;by_cases hz:d.st=0
    .have:d.perf (withB FiD.nm d.fs ⟨d.fs[i].nm,d.fs[i].su,d.fs[i].lo++x⟩)=({d with dn:=true},16):=(by unfold DiD.perf;rw[if_pos hz]);rw[this];refine Zaa (λ_=>Cl.of (Zlb d.fs Vo) ⟨_,rfl,Cl.of f ⟨_,rfl,?_⟩⟩) (λk=>by simp at k);simp[Zau,a,e1,e,hz]
    .have:d.perf (withB FiD.nm d.fs ⟨d.fs[i].nm,d.fs[i].su,d.fs[i].lo++x⟩)=({d.tick with fs:=withB FiD.nm d.fs ⟨d.fs[i].nm,d.fs[i].su,d.fs[i].lo++x⟩},0):=(by unfold DiD.perf;rw[if_neg hz]);rw[this];refine Zaa (λk=>by simp at k) (λ_=>?_);simp[Zau,a,e1,e,hz]
def dsync_fn(s:BA):Ct prog 174 {} [d.sv,S s] (λr=>r=[(Zc3 d s).1.sv,I (Zc3 d s).2]):=by
 refine dsync_nf (Cl.of (Zmy d h s) ⟨_,rfl,Zaa (λa=>?_) (λa=>?_)⟩)
 .simp at a;simp[Zc3,a]
 .simp at a;have b:=(Zcr.1 a).1;have e:=b.1.1;refine Cl.of (Zek d Vo s) ⟨_,rfl,?_⟩
  rcases d.get_cases s with⟨e1,e2,c⟩|⟨i,hi,e2,e1,c⟩
  .rw[e2];refine Zaa (λ_=>by simp[Zc3,a,e1]) (λk=>by simp at k)
  .rw[e2];subst c;refine Zaa (λk=>by simp at k) (λ_=>Cl.of (Zdl d Vo b.1.2.2.2 h.2.2 253 _ _ (λ_=>dsyn1_fn b hi)) ⟨_,_,_,_,_,rfl,?_⟩);simp[Zc3,a,e1]
def dcut_fn(s:BA)(n:Int):Ct prog 172 {} [d.sv,S s,I n] (λr=>r=[(opCut d s n).1.sv,I (opCut d s n).2]):=by
 refine dcut_nf (Cl.of (Zmy d h s) ⟨_,rfl,Zaa (λa=>?_) (λa=>?_)⟩)
 .simp at a;simp[opCut,a]
 .simp at a;have c:=(Zcr.1 a).1;have l:=c.1.1;refine Cl.of (Zek d Vo s) ⟨_,rfl,?_⟩
  rcases d.get_cases s with⟨e1,e2,e⟩|⟨i,hi,e2,e1,e⟩
  .rw[e2];refine Zaa (λ_=>by simp[opCut,a,e1]) (λk=>by simp at k)
  .rw[e2];subst e
   have f:(0:Int)<=(i:Nat)/\((i:Nat):Int)<rlen (fR d.fs):=⟨Vo,by simpa using hi⟩
   have j:=flen c hi;refine Zaa (λk=>by simp at k) (λ_=>Zaa (λk=>?_) (λk=>⟨f,_,_,_,Zah _ _ _ hi,Cl.of (Zo2 _ Vo) ⟨_,rfl,Zaa (λb=>?_) (λb=>?_)⟩⟩))
   .simp at k;refine Zaa (λ_=>by simp[opCut,a,e1,k]) (λb=>by simp at b)
   .simp at b;simp[opCut,a,e1,b]
   .simp at k b
    obtain⟨m,rfl⟩:∃m:Nat,n=m:=⟨n.toNat,Vo⟩
    have g:¬((m:Int)<0\/(d.fs[i].len:Int)<m):=Vo;refine Cl.of (Zdl d Vo c.1.2.2.2 h.2.2 251 _ _ (λ_=>dcut1_fn c hi m Vo)) ⟨_,_,_,_,_,rfl,?_⟩;simp only[opCut,a,e1,ne_eq,not_true,if_false,g,Int.toNat_natCast]
def Zxq(s:BA):Ct prog 169 {} [d.sv,S s] (λr=>r=[(Zbk d s).1.sv,I (Zbk d s).2]):=by
 refine Zxv (Cl.of (Zmy d h s) ⟨_,rfl,Zaa (λa=>?_) (λa=>?_)⟩)
 .simp at a;simp[Zbk,a]
 .simp at a;have b:=(Zcr.1 a).1;have e:=b.1.1;refine Cl.of (Zek d Vo s) ⟨_,rfl,?_⟩
  rcases d.get_cases s with⟨e1,e2,c⟩|⟨i,hi,e2,e1,c⟩
  .rw[e2];refine Zaa (λ_=>by simp[Zbk,a,e1]) (λk=>by simp at k)
  .rw[e2];subst c;refine Zaa (λk=>by simp at k) (λ_=>Cl.of (Zdl d Vo b.1.2.2.2 h.2.2 249 _ _ (λ_=>drem1_fn b hi)) ⟨_,_,_,_,_,rfl,?_⟩);simp[Zbk,a,e1]
end
def Zud(d:DiD)(h:d.ok):Ct prog 62 {} [d.sv] (λr=>r=[I (usedL d.fs)]):=by
 obtain⟨c,f,_⟩:=h;refine qused_nf ⟨λx y=>∃i:Nat,y=i/\i<=d.fs.length/\x=usedL (d.fs.take i),λ_ y=>d.fs.length-y.toNat,⟨0,rfl,Vo,by simp[usedL]⟩,?_⟩;rintro _ _ ⟨i,rfl,hi,rfl⟩;refine Zaa (λh=>?_) (λh=>?_)
 .simp at h;have e:=Zq4 d.fs i h;have e2:=used_le d.fs (i+1)
  have a:(0:Int)<=(i:Nat)/\((i:Nat):Int)<rlen (fR d.fs):=⟨Vo,by simpa using h⟩
  have b:=Zfu (List.getElem_mem h);unfold FiD.len at e b;refine⟨a,_,_,_,Zah _ _ _ h,a,_,_,_,Zah _ _ _ h,rfl,?_,?_⟩
  .rw[waddN _,rlen_eq,rlen_eq,Zi8,Zi8,Zkf _ _ Vo,Zkf _ _ Vo];exact⟨i+1,rfl,Vo,by rw[e];omega⟩
  .rw[waddN _];exact stepL Vm
 .simp at h;have:i=d.fs.length:=Vo;subst this;rw[Y7]
def qnamed_fn(s:BA):Ct prog 76 {} [S s] (λr=>r=[B (fnB s)]):=by
 refine qnamed_nf (Zaa (λh=>?_) (λh=>?_))
 .simp at h;have:fnB s=false:=(by rw[YK];intro k;have:=(Ziy.1 k).1;omega);rw[this]
 .simp at h;refine⟨λ_ y=>∃i:Nat,y=i/\i<=s.size/\∀j:Nat,∀a:j<s.size,j<i->fchr (s.data.toList[j]'(by rw[<-Zb0];exact a))=true,λ_ y=>s.size-y.toNat,⟨0,rfl,Vo,λj _ a=>Vo⟩,?_⟩;rintro _ _ ⟨i,rfl,hi,hall⟩;refine Zaa (λf=>?_) (λf=>?_)
  .simp at f;rw[Zro _ _ f,waddN _];generalize hb:s.data.toList[i]'(by rw[<-Zb0];exact f)=b
   have p:fchr b=true->∃k:Nat,((i+1:Nat):Int)=k/\k<=s.size/\∀j:Nat,∀a:j<s.size,j<k->fchr (s.data.toList[j]'(by rw[<-Zb0];exact a))=true:=λn=>
    ⟨i+1,rfl,Vo,λj a v=>by
     by_cases e:j=i
     .subst e;rw[hb];exact n
     .exact hall j a Vo⟩
   have no:fchr b=false->[B false]=[B (fnB s)]:=λn=>by have:fnB s=false:=(by rw[YK];intro k;have:=(Ziy.1 k).2 i f;rw[hb,n]at this;cases this);rw[this]
   have u:Nl (s.size-((i+1:Nat):Int).toNat) (s.size-((i:Nat):Int).toNat):=stepL Vm
   have rng:(0:Int)<=(i:Int)/\(i:Int)<slen s:=⟨Vo,by simpa using f⟩
   have q:fchr b=true↔(97<=b.toNat/\b.toNat<=122)\/(48<=b.toNat/\b.toNat<=57)\/b.toNat=46:=(by unfold fchr;rw[decide_eq_true_eq]);have t:fchr b=false↔¬((97<=b.toNat/\b.toNat<=122)\/(48<=b.toNat/\b.toNat<=57)\/b.toNat=46):=by rw[<-q];simp
   have fin:∀(g:Bool),(g=true↔fchr b=false)->ifB g ([B false]=[B (fnB s)]) ((some []:Option LL)=some []/\(∃k:Nat,((i+1:Nat):Int)=k/\k<=s.size/\∀j:Nat,∀a:j<s.size,j<k->fchr (s.data.toList[j]'(by rw[<-Zb0];exact a))=true)/\Nl (s.size-((i+1:Nat):Int).toNat) (s.size-((i:Nat):Int).toNat)):=λg o=>
    Zaa (λh=>no (o.1 h)) (λh=>⟨rfl,p (by cases n:fchr b with|true=>rfl|false=>rw[o.2 n]at h;cases h),u⟩)
   refine⟨rng,Zaa (λl=>⟨rng,Zaa (λc=>Zaa (λd=>⟨rng,Zaa (λm=>fin _ ?_) (λm=>⟨rng,fin _ ?_⟩)⟩) (λd=>by simp at d)) (λc=>⟨rng,Zaa (λd=>⟨rng,Zaa (λm=>fin _ ?_) (λm=>⟨rng,fin _ ?_⟩)⟩) (λd=>fin _ ?_)⟩)⟩)
    (λl=>Zaa (λc=>by simp at c) (λc=>fin _ ?_))⟩
   all_goals (rw[t])
   .simp at l c d m;simp;omega
   .simp at l c d m;simp;omega
   .simp at l c d m;simp;omega
   .simp at l c d m;simp;omega
   .simp at l c d;simp;omega
   .simp at l c;simp;omega
  .simp at f;have:fnB s=true:=Ziy.2 ⟨Vo,λj a=>hall j a Vo⟩;rw[this]
def qright_fn(d:DiD)(h:d.ok):Ct prog 29 {} [d.sv] (λr=>r=[B (decide d.P)]):=by
 have no:¬d.P->[B false]=[B (decide d.P)]:=λh=>by simp[h]
 refine qright_nf _ _ _ _ _ (Zaa (λq=>Zaa (λ_=>no (λp=>?_)) (λc=>by simp at c)) (λq=>Cl.of (Zud d h) ⟨_,rfl,Zaa (λc=>no (λp=>?_)) (λc=>?_)⟩))
 .have:=p.1;simp at q;omega
 .have:=p.2.1;simp at c;omega
 .simp at q c;refine⟨λ_ y=>∃i:Nat,y=i/\i<=d.fs.length/\∀j:Nat,∀g:j<d.fs.length,j<i->fnB d.fs[j].nm=true/\(0<j->nlt (d.fs[j-1]'Vo).nm d.fs[j].nm),λ_ y=>d.fs.length-y.toNat,⟨0,rfl,Vo,λj _ g=>Vo⟩,?_⟩;rintro b _ ⟨i,rfl,hi,hall⟩;refine Zaa (λc=>?_) (λc=>?_)
  .simp at c;have s:Nl (d.fs.length-((i+1:Nat):Int).toNat) (d.fs.length-((i:Nat):Int).toNat):=stepL Vm
   have o:fnB d.fs[i].nm=true->(0<i->nlt (d.fs[i-1]'Vo).nm d.fs[i].nm)->∃k:Nat,((i+1:Nat):Int)=k/\k<=d.fs.length/\∀j:Nat,∀g:j<d.fs.length,j<k->fnB d.fs[j].nm=true/\(0<j->nlt (d.fs[j-1]'Vo).nm d.fs[j].nm):=λa b=>
    ⟨i+1,rfl,Vo,λj g z=>by
     by_cases e:j=i
     .subst e;exact⟨a,b⟩
     .exact hall j g Vo⟩
   have t:(0:Int)<=(i:Nat)/\((i:Nat):Int)<rlen (fR d.fs):=⟨Vo,by simpa using c⟩
   rw[waddN _];refine⟨t,_,_,_,Zah _ _ _ c,Cl.of (qnamed_fn _) ⟨_,rfl,Zaa (λm=>?_) (λm=>?_)⟩⟩
   .simp at m;refine Zaa (λ_=>no (λp=>?_)) (λn=>by simp at n);have:=p.2.2.1 _ (List.getElem_mem c);rw[this]at m;cases m
   .simp at m;refine Zaa (λn=>?_) (λn=>?_)
    .simp at n;have w:wsub .i64 (i:Int) 1=((i-1:Nat):Int):=by rw[Zap];omega
     rw[w];have hi1:i-1<d.fs.length:=Vo;refine⟨t,_,_,_,Zah _ _ _ c,⟨Vo,Vm⟩,_,_,_,Zah _ _ _ hi1,?_⟩;rw[sle_d];refine Zaa (λl=>no (λp=>?_)) (λl=>⟨rfl,o m (λ_=>?_),s⟩)
     .simp at l;exact l (Zlr p.2.2.2 Vo c)
     .simp at l;exact l
    .simp at n;refine Zaa (λl=>by simp at l) (λl=>⟨rfl,o m (λ_=>Vo),s⟩)
  .simp at c;have v:srt FiD.nm d.fs:=adj_srt λj g=>(hall j g Vo).2;have x:∀f∈d.fs,fnB f.nm=true:=λf u=>by obtain⟨j,g,rfl⟩:=List.mem_iff_getElem.1 u;exact(hall j g Vo).1
   have:d.P:=⟨⟨Vo,Vo,Vo,Vo⟩,Vo,x,v⟩
   simp[this]
def qall_fn(c:BA)(a b:List UInt8)(h:a.length+b.length<=2147483648):Ct prog 145 {} [fil3 c (uR a) (uR b)] (λr=>r=[SL 1 (uR (a++b))]):=by
 refine qall_nf _ _ _ _ ⟨Vm,by simp[rapp];omega,by simp[rapp]⟩
section
variable(d:DiD)(h:d.ok)
include h
end
def qshort_fn(d:DiD)(h:d.fs.length<=70->d.ok)(m:d.fs.length<=9223372036854775807):Ct prog 21 {} [d.sv] (λr=>r=[B (decide (d.fs.length<=70/\usedL d.fs<=70000/\∀f∈d.fs,f.nm.size<=100))]):=by
 refine qshort_nf _ _ _ _ _ (Zaa (λa=>Zaa (λ_=>?_) (λk=>by simp at k)) (λa=>?_))
 .have:¬(d.fs.length<=70):=(by simp at a;omega);simp[this]
 .have a:d.fs.length<=70:=(by simp at a;omega);refine Cl.of (Zud d (h a)) ⟨_,rfl,Zaa (λb=>?_) (λb=>?_)⟩
  .have:¬(usedL d.fs<=70000):=(by simp at b;omega);simp[this]
  .have b:usedL d.fs<=70000:=(by simp at b;omega);refine⟨λ_ y=>∃i:Nat,y=i/\i<=d.fs.length/\∀j:Nat,∀c:j<d.fs.length,j<i->d.fs[j].nm.size<=100,λ_ y=>d.fs.length-y.toNat,⟨0,rfl,Vo,λj _ c=>Vo⟩,?_⟩;rintro _ _ ⟨i,rfl,hi,hall⟩;refine Zaa (λk=>?_) (λk=>?_)
   .have k:i<d.fs.length:=(by simpa using k);rw[waddN _];refine⟨⟨Vo,by simpa using k⟩,_,_,_,Zah _ _ _ k,Zaa (λz=>?_) (λz=>⟨rfl,⟨i+1,rfl,Vo,λj c l=>?_⟩,stepL Vm⟩)⟩
    .have z:100<d.fs[i].nm.size:=(by simp at z;omega);have:¬∀f∈d.fs,f.nm.size<=100:=λq=>by have:=q _ (List.getElem_mem k);omega
     simp[this]
    .by_cases e:j=i
     .subst e;simp at z;omega
     .exact hall j c Vo
   .have k:¬i<d.fs.length:=(by simpa using k);have:∀f∈d.fs,f.nm.size<=100:=λf g=>by obtain⟨j,c,rfl⟩:=List.mem_iff_getElem.1 g;exact hall j c Vo
    have:d.fs.length<=70/\usedL d.fs<=70000/\∀f∈d.fs,f.nm.size<=100:=⟨a,b,this⟩
    rw[decide_eq_true this]
end Dsk
namespace Snp
open Go Go.Px Go.Proofs  Tryz
abbrev dk4(rows:LL)(b a:Int)(c:Bool):SV:=.agg [SL 3 rows,I b,I a,B c]
abbrev st3(rows:LL)(s a:Int):SV:=.agg [SL 21 rows,I s,I a]
abbrev U32(n:Int):SV:=SV.int .u32 n
def SgT:FuncId->Sig:=(λf=>bif Nat.beq f 271 then⟨[],[.own]⟩else bif Nat.beq f 293 then⟨[],[.own]⟩else bif Nat.beq f 140 then⟨[],[.own]⟩else bif Nat.beq f 94 then⟨[],[.own]⟩else{})
def SvT:TypeId->Sig:=(λf=>{})
def nnum_nf(h:Cl prog 244 sP ([S s,S (bA [115,110,97,112,46])]) (λi=>∃c b,(i=[S c,B b])/\ifB (bpick (bnot b) true (ine (slen c) 10)) (Q [I 0,B false]) (∃e:Int->Bool->Int->Int->Prop,∃m:Int->Bool->Int->Int->Nat,(e 0 false 0 0)/\∀x g,∀d a,(e x g d a)->ifB (ilt a (slen c)) (((0<=a)/\a<(slen c))/\ifB (ilt (sbyte c a) 48) (Q [I 0,B false]) (((0<=a)/\a<(slen c))/\ifB (igt (sbyte c a) 57) (Q [I 0,B false]) (((0<=a)/\a<(slen c))/\((Option.some []:Option LL)=Option.some [])/\(e x g (wadd .i64 (wmul .i64 d 10) (wcv .i64 (wsub .u8 (sbyte c a) 48))) (wadd .i64 a 1))/\Nl (m x g (wadd .i64 (wmul .i64 d 10) (wcv .i64 (wsub .u8 (sbyte c a) 48))) (wadd .i64 a 1)) (m x g d a)))) (ifB (igt d 4294967296) (Q [I 0,B false]) (Q [I d,B true]))))):Ct prog 162 {} [S s] Q:=
 fN SgT SvT func162 h
def ndec_nf{rows:LL}(h:Cl prog 71 sP [] (λn=>∃a,(n=[SV.arr .u32 256 a])/\Cl prog 220 sP [SV.arr .u32 256 a,SL 1 rows] (λc=>∃l x,(c=[SL 1 l,I x])/\ifB (ine x 0) (Q ([SV.agg ([SL 21 [],I 0,I 0]),I x])) ((0<(rlen ([[U8 102],[U8 98],[U8 115],[U8 49]])))/\Cl prog 246 sP ([SL 1 l,SL 1 ([[U8 102],[U8 98],[U8 115],[U8 49]])]) (λd=>∃g b,(d=[SL 1 g,B b])/\ifB (bnot b) (Q ([SV.agg ([SL 21 [],I 0,I 0]),I 11])) (Cl prog 247 sP [SL 1 g] (λe=>∃i j,∃k m,(e=[SV.agg [SL 21 i,I j,I k],I m])/\ifB (ine m 0) (Q ([SV.agg ([SL 21 [],I 0,I 0]),I 11])) (Q ([SV.agg [SL 21 i,I j,I k],I 0]))))))))):Ct prog 163 {} [SL 1 rows] Q:=
 fN SgT SvT func163 h
def nnew_nf{rows:LL}(h:Cl prog 39 sP ([SV.agg [SL 3 rows,I i,I j,B o]]) (λC=>∃b,(C=[B b])/\ifB (bnot b) (Q ([SV.agg ([SL 21 [],I 0,I 0]),I 1])) (ifB o (Q ([SV.agg ([SL 21 [],I 0,I 0]),I 16])) (Cl prog 159 sP ([SV.agg [SL 3 rows,I i,I j,B o]]) (λr=>∃l,(r=[SL 1 l])/\∃a:Int->LL->Int->Int->Prop,∃m:Int->LL->Int->Int->Nat,(a 0 [] ((-1:Int)) 0)/\∀x g,∀e d,(a x g e d)->ifB (ilt x (rlen l)) (((0<=x)/\x<(rlen l))/\∃s,(rget l x=[S s])/\Cl prog 162 sP [S s] (λt=>∃c w,(t=[I c,B w])/\ifB (bpick (bnot w) true (ile c e)) ((Sm (some ([[SL 3 rows,I i,I j,B o],[SV.slice 21 [] 1,I 0,I 0]])))/\(a (wadd .i64 x 1) g e d)/\Nl (m (wadd .i64 x 1) g e d) (m x g e d)) (Cl prog 67 sP ([SV.agg [SL 3 rows,I i,I j,B o],S s]) (λu=>∃y z,(u=[SL 1 y,I z])/\ifB (ine z 0) ((Sm (some ([[SL 3 rows,I i,I j,B o],[SV.slice 21 [] 1,I 0,I 0]])))/\(a (wadd .i64 x 1) g e d)/\Nl (m (wadd .i64 x 1) g e d) (m x g e d)) (Cl prog 163 sP [SL 1 y] (λv=>∃p n,∃q A,(v=[SV.agg [SL 21 p,I n,I q],I A])/\ifB (bpick (ieq A 0) (ieq n c) false) ((Sm (some ([[SL 3 rows,I i,I j,B o],[SV.slice 21 [] 1,I 0,I 0]])))/\(a (wadd .i64 x 1) p n q)/\Nl (m (wadd .i64 x 1) p n q) (m x g e d)) ((Sm (some ([[SL 3 rows,I i,I j,B o],[SV.slice 21 [] 1,I 0,I 0]])))/\(a (wadd .i64 x 1) g e d)/\Nl (m (wadd .i64 x 1) g e d) (m x g e d)))))))) (ifB (ilt e 0) (Q ([SV.agg ([SL 21 [],I 0,I 0]),I 14])) (Q ([SV.agg [SL 21 g,I e,I d],I 0])))))))):Ct prog 98 {} [dk4 rows i j o] Q:=
 fO SgT SvT (λk=>bif Nat.beq k 24 then some {slots:=[(23,false,[.int .i64])],boxes:=[(512,[.sl 21,.int .i64,.int .i64])],fixed:=[128,256]}else none) func98 h
def Ztz(h:Cl prog 312 sP [S s,S t] (λc=>∃a b,(c=[S a,B b])/\Q [S a,B b])):Ct prog 244 {} [S s,S t] Q:=
 fN SgT SvT func244 h
def Zpu(s t:BA)(Q:QQ)(h:Cl prog 287 sP [S s,S t] (λa=>∃b,(a=[B b])/\ifB (bnot b) (Q [S s,B false]) (((0<=(slen t))/\((slen t)<=(slen s))/\(slen s)<=(slen s))/\Q [S (ssub s (slen t) (slen s)),B true]))):Ct prog 312 {} [S s,S t] Q:=
 fN SgT SvT func312 h
end Snp
namespace Snp
open Go Go.Px Go.Proofs Cod Seg Sgr Sx Row Tryz
abbrev pre:List UInt8:=[115,110,97,112,46]
def snNm(q:Int):BA:=⟨(pre++dgs 10 q.toNat).toArray⟩
def inQ(q:Int):Prop:=0<=q/\q<=4294967296
instance (q:Int):Decidable (inQ q):=inferInstanceAs (Decidable (_/\_))
def isD(c:UInt8):Prop:=48<=c.toNat/\c.toNat<=57
def vD(l:List UInt8):Nat:=l.foldl (λn c=>10*n+(c.toNat-48)) 0
def Zth(l:List UInt8)(c:UInt8):vD (l++[c])=10*vD l+(c.toNat-48):=by simp[vD]
def Zti:∀(k n:Nat),∀c∈dgs k n,isD c
 |0,_,c,h=>by cases h
 |k+1,n,c,h=>by
  rw[dgs,List.mem_append]at h
  rcases h with h|h
  .exact Zti k _ c h
  .simp at h;subst h;unfold isD;rw[show(48:UInt8)+UInt8.ofNat (n%10)=UInt8.ofNat (48+n%10) by simp];have:(UInt8.ofNat (48+n%10)).toNat=48+n%10:=by simp[UInt8.toNat_ofNat'];omega
   omega
def Zrb:∀(k n:Nat),n<10^k->vD (dgs k n)=n
 |0,n,h=>by simp at h;subst h;rfl
 |k+1,n,h=>by have e:(UInt8.ofNat (48+n%10)).toNat=48+n%10:=(by simp[UInt8.toNat_ofNat'];omega);rw[dgs,Zth,Zrb k (n/10) (by rw[Nat.pow_succ]at h;omega),e];omega
def dgs_vDr:∀(r:List UInt8),(∀c∈r,isD c)->dgs r.length (vD r.reverse)=r.reverse/\vD r.reverse<10^r.length
 | [],_=>⟨rfl,Vd⟩
 |c::r,h=>by
  obtain⟨a,d⟩:=dgs_vDr r λx hx=>h x (by simp[hx]);have b:=h c Vs;unfold isD at b;rw[List.reverse_cons,Zth,List.length_cons];constructor
  .rw[dgs,show(10*vD r.reverse+(c.toNat-48))/10=vD r.reverse by omega,a,show(10*vD r.reverse+(c.toNat-48))%10=c.toNat-48 by omega,show 48+(c.toNat-48)=c.toNat by omega,UInt8.ofNat_toNat]
  .rw[Nat.pow_succ];omega
def dgs_vD(l:List UInt8)(h:∀c∈l,isD c):dgs l.length (vD l)=l/\vD l<10^l.length:=by
 have:=dgs_vDr l.reverse λc a=>h c (by simpa using a)
 simpa using this
def snNm_inj(c:inQ i)(d:inQ b)(h:snNm i=snNm b):i=b:=by
 have e:(pre++dgs 10 i.toNat)=pre++dgs 10 b.toNat:=by
  have:=congrArg (λs:BA=>s.data.toList) h
  simpa[snNm]using this
 have f:=congrArg vD (List.append_cancel_left e);unfold inQ at c d;rw[Zrb 10 _ Vo,Zrb 10 _ Vo]at f;omega
def NumR(s:BA)(n:Int)(b:Bool):Prop:=(∃q,inQ q/\s=snNm q/\n=q/\b=true)\/((∀q,inQ q->s≠snNm q)/\n=0/\b=false)
def NumR.no(h:∀q,inQ q->s≠snNm q):NumR s 0 false:=.inr ⟨h,rfl,rfl⟩
def Zew(q:Int):(snNm q).data.toList=pre++dgs 10 q.toNat:=by simp[snNm]
def Zwk(c:n+5<s.data.toList.length)(h:¬isD (s.data.toList[n+5])):∀q,inQ q->s≠snNm q:=by
 rintro q d rfl;apply h;have a:=Zew q;have b:(snNm q).data.toList.length=15:=by rw[a];simp[Zd9]
 have:(snNm q).data.toList[n+5]=(dgs 10 q.toNat)[n]'(by rw[Zd9];omega):=(by simp only[a];rw[WL Vs];simp);rw[this];exact Zti _ _ _ (List.getElem_mem _)
structure Dig(s:BA)(i:Nat)(n:Int):Prop where
 len:s.data.toList.length=15
 pre:s.data.toList.take 5=pre
 ds:∀j (h:j<i) (h2:i<=10),isD (s.data.toList[j+5]'Vo)
 val:n=(vD ((s.data.toList.drop 5).take i):Nat)
def Dig.step(h:Dig s n i)(c:n<10)(hd:isD (s.data.toList[n+5]'(by have:=h.len;omega))):Dig s (n+1) (10*i+((s.data.toList[n+5]'(by have:=h.len;omega)).toNat-48)):=by
 have b:=h.len;refine⟨h.len,h.pre,λj d f=>?_,?_⟩
 .by_cases e:j=n
  .subst e;exact hd
  .exact h.ds j Vo Vo
 .have a:n<(s.data.toList.drop 5).length:=(by simp at b|-;omega);rw[List.take_succ_eq_append_getElem a,Zth];have g:=h.val;unfold isD at hd;have e:(s.data.toList.drop 5)[n]=s.data.toList[n+5]'Vo:=(by rw[List.getElem_drop];congr 1;omega);rw[e];omega
def vD_lt(l:List UInt8)(h:∀c∈l,isD c):vD l<10^l.length:=(dgs_vD l h).2
def Dig.lt{s:BA}{i:Nat}{n:Int}(h:Dig s i n)(d:i<=10):0<=n/\n<10000000000:=by
 have l:=h.len
 have g:∀c∈(s.data.toList.drop 5).take i,isD c:=by
  intro c f;obtain⟨j,a,e⟩:=YM f;have b:j<i:=by simp at a;omega
  have:=h.ds j b d;rw[List.getElem_take,List.getElem_drop]at e;rw[<-e];have e2:s.data.toList[5+j]'(by simp at a;omega)=s.data.toList[j+5]'Vo:=(by congr 1;omega);rw[e2];exact this
 have m:=vD_lt _ g;have k:((s.data.toList.drop 5).take i).length<=10:=Vm;have o:10^((s.data.toList.drop 5).take i).length<=10^10:=Nat.pow_le_pow_right Vo k;have:=h.val;have p:(10:Nat)^10=10000000000:=Vd;omega
def Dig.done{s:BA}{n:Int}(h:Dig s 10 n):s=snNm n:=by
 have a:=h.len
 have m:∀c∈s.data.toList.drop 5,isD c:=by
  intro c k;obtain⟨j,l,e⟩:=YM k;have d:j<10:=by simp at l a;omega
  have:=h.ds j d Vo;rw[List.getElem_drop]at e;rw[<-e];have e2:s.data.toList[5+j]'Vo=s.data.toList[j+5]'Vo:=(by congr 1;omega);rw[e2];exact this
 obtain⟨b,o⟩:=dgs_vD _ m;have f:=h.val;have g:(s.data.toList.drop 5).take 10=s.data.toList.drop 5:=List.take_of_length_le (by simp at a|-;omega);rw[g]at f;have i:(s.data.toList.drop 5).length=10:=by simp at a|-;omega
 rw[i]at b;have e:s.data.toList=Snp.pre++dgs 10 n.toNat:=(by rw[f,Int.toNat_natCast,b,<-h.pre,List.take_append_drop]);exact(toList_iff _ _).1 (by rw[ByteArray.toList_eq,ByteArray.toList_eq,Zew,e])
def Zpc(s:BA)(l h:Int):(ssub s l h).data.toList=(s.data.toList.take h.toNat).drop l.toNat:=by
 unfold ssub;rw[ByteArray.data_extract,Array.toList_extract];simp[List.extract_eq_take_drop,List.drop_take]
def Zg9(s:BA):slen s=s.data.toList.length:=by
 show((s.size:Nat):Int)=_;rw[Zb0]
def seq_bl(a b:BA):seq a b=decide (a.data.toList=b.data.toList):=by
 rw[seq_d];apply decide_eq_decide.2;rw[<-toList_iff,ByteArray.toList_eq,ByteArray.toList_eq]
def sbyte_bl(s:BA)(i:Int)(a:0<=i)(h:i<s.data.toList.length):sbyte s i=((s.data.toList[i.toNat]'Vo).toNat:Int):=by
 have:=Zro s i.toNat (by rw[Zb0];omega);rw[show((i.toNat:Nat):Int)=i by omega]at this;exact this
def scut_fn(s:BA):Ct prog 244 {} [S s,S (bA [115,110,97,112,46])] (λr=>r=if s.data.toList.take 5=pre then[S (ssub s 5 (slen s)),B true]else[S s,B false]):=by
 have a:slen (bA [115,110,97,112,46])=5:=Vd;have c:=Zg9 s;refine Ztz (Cl.ofQ (Zpu s (bA [115,110,97,112,46]) (λr=>r=if s.data.toList.take 5=pre then[S (ssub s 5 (slen s)),B true]else[S s,B false]) ?_) ?_)
 .rw[a]
  have b:Ct prog 287 {} [S s,S (bA [115,110,97,112,46])] (λr=>r=[B (decide (s.data.toList.take 5=pre))]):=by
   refine Zub ?_;rw[a];refine Zaa (λh=>⟨⟨Vo,Vo,by simp only[ige_eq,decide_eq_true_eq]at h;omega⟩,?_⟩) (λh=>?_)
   .rw[seq_bl,Zpc];congr 3
   .have:¬s.data.toList.take 5=pre:=λe=>by have:=congrArg List.length e;simp only[ige_eq,decide_eq_false_iff_not]at h;simp only[List.length_take,show pre.length=5 from rfl]at this;omega
    rw[decide_eq_false this]
  refine Cl.of b ⟨_,rfl,Zaa (λh=>?_) (λh=>⟨⟨Vo,?_,Vo⟩,?_⟩)⟩
  .simp at h;rw[if_neg h]
  .simp only[bnot,YA,decide_eq_true_eq]at h;have:=congrArg List.length h;simp only[List.length_take,show pre.length=5 from rfl]at this;omega
  .simp at h;rw[if_pos h]
 .rintro r rfl
  split
  .exact⟨_,_,rfl,rfl⟩
  .exact⟨_,_,rfl,rfl⟩
def no_pre(h:¬s.data.toList.take 5=pre):∀q,inQ q->s≠snNm q:=by
 rintro q _ rfl;exact h (by rw[Zew];rfl)
def no_len(h:¬s.data.toList.length=15):∀q,inQ q->s≠snNm q:=by
 rintro q _ rfl;exact h (by rw[Zew];simp[Zd9])
def Dig.zero{s:BA}(a:s.data.toList.length=15)(b:s.data.toList.take 5=Snp.pre):Dig s 0 0:=⟨a,b,λj h=>Vo,rfl⟩
def Dig.num{s:BA}{n:Int}(h:Dig s 10 n):if 4294967296<n then NumR s 0 false else NumR s n true:=by
 have f:=h.lt Vo;have b:=h.done
 split
 next g=>refine .inr ⟨λq a e=>?_,rfl,rfl⟩;have c:=h.val;have d:(s.data.toList.drop 5).take 10=dgs 10 q.toNat:=(by rw[e,Zew];show(dgs 10 q.toNat).take 10=_;exact List.take_of_length_le (by rw[Zd9];omega));unfold inQ at a;rw[d,Zrb 10 _ Vo]at c;omega
 .exact .inl ⟨n,⟨Vo,Vo⟩,b,rfl,rfl⟩
def digit_val{c:UInt8}(h:isD c):wcv IntKind.i64 (wsub IntKind.u8 (c.toNat:Int) 48)=c.toNat-48:=by
 unfold isD at h;have:wsub IntKind.u8 (c.toNat:Int) 48=c.toNat-48:=(by simp[wsub,IntKind.wrap,IntKind.signed,IntKind.bits];omega);rw[this];exact Zbj Vo Vo
def nnum_fn(s:BA):Ct prog 162 {} [S s] (λr=>∃n b,r=[I n,B b]/\NumR s n b):=by
 have no:(∀q,inQ q->s≠snNm q)->∃n b,([I 0,B false]:List SV)=[I n,B b]/\NumR s n b:=λh=>⟨_,_,rfl,.no h⟩
 have t:=Zg9 s;refine nnum_nf (Cl.of (scut_fn s) ?_);by_cases hp:s.data.toList.take 5=pre
 rotate_left
 .rw[if_neg hp];exact⟨_,_,rfl,Zaa (λ_=>no (no_pre hp)) (λh=>by simp at h)⟩
 rw[if_pos hp];refine⟨_,_,rfl,?_⟩;have c:(ssub s 5 (slen s)).data.toList=s.data.toList.drop 5:=(by rw[Zpc,t,Int.toNat_natCast,Y7];rfl);have m:slen (ssub s 5 (slen s))=(s.data.toList.drop 5).length:=(by rw[Zg9,c]);have v:5<=s.data.toList.length:=(by have:=congrArg List.length hp;simp at this|-;omega);rw[m];refine Zaa (λh=>no (no_len λe=>?_)) (λh=>?_)
 .simp at h e;omega
 have g:s.data.toList.length=15:=(by simp at h|-;omega);have l:((s.data.toList.drop 5).length:Int)=10:=(by simp at g|-;omega);rw[l];have o:∀i:Int,0<=i->i<10->∃k:i.toNat+5<s.data.toList.length,sbyte (ssub s 5 (slen s)) i=((s.data.toList[i.toNat+5]).toNat:Int):=(by intro i p f;refine⟨Vo,?_⟩;rw[sbyte_bl _ _ p (by rw[c];omega)];congr 2;simp only[c,List.getElem_drop];congr 1;omega);refine⟨λ_ _ d a=>0<=a/\a<=10/\Dig s a.toNat d,λ_ _ _ a=>(10-a).toNat,⟨Vo,Vo,.zero g hp⟩,?_⟩;rintro _ _ d a ⟨i0,i1,dg⟩;refine Zaa (λh=>?_) (λh=>?_)
 .simp at h;obtain⟨k,e⟩:=o a i0 h;rw[e];refine⟨⟨i0,h⟩,Zaa (λf=>no (Zwk k λhd=>?_)) (λf=>⟨⟨i0,h⟩,Zaa (λj=>no (Zwk k λhd=>?_)) (λj=>?_)⟩)⟩
  .unfold isD at hd;simp only[ilt,decide_eq_true_eq]at f;omega
  .unfold isD at hd;simp only[igt,decide_eq_true_eq]at j;omega
  .have hd:isD (s.data.toList[a.toNat+5]):=(by unfold isD;simp only[ilt,igt,decide_eq_false_iff_not]at f j;omega);have u:=dg.lt Vo;have hst:=dg.step Vo hd;rw[digit_val hd];unfold isD at hd;have w1:wmul IntKind.i64 d 10=d*10:=Zbj Vo Vo;have w2:wadd IntKind.i64 a 1=a+1:=Zac;rw[w1,w2,Zac];refine⟨⟨i0,h⟩,rfl,⟨Vo,Vo,?_⟩,mlt (by dsimp only;omega)⟩;rw[show(a+1).toNat=a.toNat+1 by omega,Int.mul_comm];exact hst
 .simp at h;have e:a.toNat=10:=Vo;rw[e]at dg;have:=dg.num;refine Zaa (λh=>?_) (λh=>?_)
  .simp at h;rw[if_pos h]at this;exact⟨_,_,rfl,this⟩
  .simp at h;rw[if_neg Vo]at this;exact⟨_,_,rfl,this⟩
abbrev mg:List Int:=[102,98,115,49]
def snB(d:StD):List Int:=sealB (mg++encS d)
def byts_mg:Byts mg:=λx hx=>by simp at hx;omega
def snB_byts(d:StD):Byts (snB d):=Zi1 (byts_mg.app (byts_encS d))
def snB_len(h:g.P):(snB g).length<=8008/\8<=(snB g).length:=by
 have:=encS_len h;simp only[snB,Zf1,List.length_append,List.length_cons,Y9];omega
def Zlc{a b:List Int}(h:sealB a=sealB b):a=b:=by
 have c:=congrArg List.length h;rw[Zf1,Zf1]at c;unfold sealB at h;exact(List.append_inj h Vo).1
def Zsg{d e:StD}(hd:d.P)(a:e.P)(h:snB d=snB e):d=e:=
 encS_inj hd a (List.append_cancel_left (Zlc h))
def decE(l:List Int):Int:=if l.length<4 then 10 else if sealB (l.take (l.length-4))=l then 11 else 12
def SnD(l:List Int)(d:StD)(e:Int):Prop:=(d.P/\snB d=l/\e=0)\/((∀a:StD,a.P->snB a≠l)/\d=st0/\e=decE l)
def Zu4(l:List Int):decE l≠0:=by
 unfold decE
 split
 .omega
 .split<;>omega
def ndec_fn(l:List Int)(n:l.length<=100000)(i:Byts l):Ct prog 163 {} [SL 1 (bR l)] (λr=>∃d e,r=[StD.sv d,I e]/\SnD l d e):=by
 have no:∀e,(∀a:StD,a.P->snB a≠l)->e=decE l->∃d j,([.agg [SL 21 [],I 0,I 0],I e]:List SV)=[StD.sv d,I j]/\SnD l d j:=λe h f=>⟨st0,e,rfl,.inr ⟨h,rfl,f⟩⟩
 refine ndec_nf (Cl.of Zig ⟨_,rfl,Cl.of (Zwx l i Vo) ⟨_,_,rfl,?_⟩⟩);unfold openE;by_cases h4:l.length<4
 .rw[if_pos h4];refine Zaa (λ_=>no 10 (λa h e=>?_) (by unfold decE;rw[if_pos h4])) (λh=>by simp at h);have:=snB_len h;rw[e]at this;omega
 rw[if_neg h4];by_cases hs:sealB (l.take (l.length-4))=l
 rotate_left
 .rw[if_neg hs];refine Zaa (λ_=>no 12 (λa h e=>hs ?_) (by unfold decE;rw[if_neg h4,if_neg hs])) (λh=>by simp at h);have k:(mg++encS a).length=l.length-4:=by rw[<-e,snB,Zf1];omega
  have:l.take (l.length-4)=mg++encS a:=(by rw[<-k,<-e,snB,sealB,YV]);rw[this];exact e
 rw[if_pos hs];have b:Byts (l.take (l.length-4)):=i.sub λx hx=>List.mem_of_mem_take hx;have c:decE l=11:=by unfold decE;rw[if_neg h4,if_pos hs]
 refine Zaa (λh=>by simp at h) (λ_=>⟨by simp[rlen],Cl.ofQ (Zvr (l.take (l.length-4)) mg b byts_mg) ?_⟩);rintro r (⟨t,ht,rfl⟩|⟨hno,rfl⟩)
 .have g:Byts t:=b.sub λx hx=>by rw[ht];exact List.mem_append.2 (.inr hx)
  have m:t.length<=100000:=(by have:=congrArg List.length ht;simp at this;omega);refine⟨_,_,rfl,Zaa (λh=>by simp at h) (λ_=>Cl.ofQ (rdec_fn t m g) ?_)⟩;rintro r ⟨d,e,rfl,⟨h1,f,rfl⟩|⟨h1,rfl,rfl⟩⟩
  .refine⟨_,_,_,_,rfl,Zaa (λh=>by simp at h) (λ_=>⟨d,0,rfl,.inl ⟨h1,?_,rfl⟩⟩)⟩;rw[snB,f,<-ht,hs]
  .refine⟨_,_,_,_,rfl,Zaa (λ_=>no 11 (λa h e=>h1 a h ?_) c.symm) (λh=>by simp at h)⟩;rw[<-hs,ht]at e;exact List.append_cancel_left (Zlc e)
 .refine⟨_,_,rfl,Zaa (λ_=>no 11 (λa h e=>hno (encS a) ?_) c.symm) (λh=>by simp at h)⟩;rw[<-hs]at e;exact(Zlc e).symm
abbrev iU(l:List UInt8):List Int:=l.map λb=>(b.toNat:Int)
def snU(d:StD):List UInt8:=(snB d).map λn=>UInt8.ofNat n.toNat
theorem uR_bR(l:List UInt8):uR l=bR (iU l):=by simp[iU]
def Zsh(l:List UInt8):Byts (iU l):=by
 intro x hx;obtain⟨b,_,rfl⟩:=Ya.1 hx;have:=b.toNat_lt;omega
def iU_inj{a b:List UInt8}(h:iU a=iU b):a=b:=uR_inj.1 (by rw[uR_bR,uR_bR,h])
theorem iU_of{l:List Int}(h:Byts l):iU (l.map λn=>UInt8.ofNat n.toNat)=l:=by
 simp only[iU,List.map_map]
 conv=>rhs;rw[<-YQ l]
 apply List.map_congr_left;intro x hx;have:=h x hx;simp[UInt8.toNat_ofNat'];omega
def snU_i(d:StD):iU (snU d)=snB d:=iU_of (snB_byts d)
def snU_iff{l:List UInt8}:snB g=iU l↔snU g=l:=by
 rw[<-snU_i];exact⟨iU_inj,λh=>by rw[h]⟩
end Snp
namespace Snp
open Go Go.Px Go.Proofs Cod Seg Sgr Sx Row Dsk Tryz
abbrev tmpB:BA:=bA [116,109,112]
def chn(p:DiD×Int)(f:DiD->DiD×Int):DiD×Int:=if p.2=0 then f p.1 else p
def oldN(d:DiD):Nat:=match d.get tmpB with|some f=>f.len|none=>0
def newF(d:DiD):Nat:=match d.get tmpB with|some _=>0|none=>1
def mkT(d:DiD)(x:List UInt8)(q:Int):DiD×Int:=chn (chn (chn (Zbe d tmpB) λd=>Zau d tmpB x) λd=>Zc3 d tmpB) λd=>opRename d tmpB (snNm q)
def Good(d:DiD):Prop:=d.st<=9223372036854775807
def stP_q(h:g.P):inQ g.q:=⟨h.1.2.1,h.1.2.2.1⟩
def isF(f:FiD)(t:StD):Prop:=t.P/\f.nm=snNm t.q/\f.su++f.lo=snU t
def Cand(l:List FiD)(t:StD):Prop:=∃f∈l,isF f t
def Best(l:List FiD)(o:Option StD):Prop:=match o with|none=>∀t,¬Cand l t|some s=>Cand l s/\∀t,Cand l t->t.q<=s.q
def NewR(d:DiD)(s:StD)(e:Int):Prop:=
 (¬d.P/\s=st0/\e=1)\/(d.P/\d.dn=true/\s=st0/\e=16)\/(d.P/\d.dn=false/\((e=0/\Best d.fs (some s))\/(e=14/\s=st0/\Best d.fs none)))
def cand_uniq{l:List FiD}(c:srt FiD.nm l){a b:StD}(d:Cand l a)(h:Cand l b)(e:a.q=b.q):a=b:=by
 obtain⟨f,i,j,k,m⟩:=d;obtain⟨g,n,o,p,r⟩:=h;have:f=g:=Zo5 c i n (by rw[k,p,e]);subst this;exact Zsg j o (by rw[<-snU_i,<-snU_i,<-m,<-r])
def best_uniq{l:List FiD}(e:srt FiD.nm l){a b:StD}(c:Best l (some a))(d:Best l (some b)):a=b:=
 cand_uniq e c.1 d.1 (Int.le_antisymm (d.2 a c.1) (c.2 b d.1))
def Zfv{l:List FiD}{f:FiD}{t:StD}:Cand (l++[f]) t↔Cand l t\/isF f t:=by
 unfold Cand;constructor
 .rintro⟨g,a,h⟩
  rcases List.mem_append.1 a with a|a
  .exact .inl ⟨g,a,h⟩
  .simp at a;subst a;exact .inr h
 .rintro(⟨g,a,h⟩|h)
  .exact⟨g,by simp[a],h⟩
  .exact⟨f,Vs,h⟩
def best_skip{o:Option StD}(h:Best y o)(b:∀t,isF f t->∃s,o=some s/\t.q<=s.q):Best (y++[f]) o:=by
 cases o with
 |none=>
  intro t a
  rcases Zfv.1 a with a|a
  .exact h t a
  .obtain⟨s,e,_⟩:=b t a;cases e
 |some s=>
  refine⟨Zfv.2 (.inl h.1),λt a=>?_⟩
  rcases Zfv.1 a with a|a
  .exact h.2 t a
  .obtain⟨d,e,c⟩:=b t a;cases e;exact c
def best_take{l:List FiD}{f:FiD}{o:Option StD}{s:StD}(h:Best l o)(b:isF f s)(c:∀t,o=some t->t.q<s.q):Best (l++[f]) (some s):=by
 refine⟨Zfv.2 (.inr b),λt a=>?_⟩
 rcases Zfv.1 a with a|a
 .cases o with
  |none=>exact absurd a (h t)
  |some u=>have:=h.2 t a;have:=c u rfl;omega
 .have e:t=s:=Zsg a.1 b.1 (by rw[<-snU_i,<-snU_i,<-a.2.2,<-b.2.2]);rw[e];exact Yd _
def Hold(o:Option StD)(l:LL)(q t:Int):Prop:=match o with
 |none=>q= -1
 |some s=>l=coR s.cs/\q=s.q/\t=s.t/\s.P
def Zo0(h:d.P)(a:n<d.fs.length):(d.fs[n].su++d.fs[n].lo).length<=65536:=by
 have b:=h.1;have c:=h.2.1;have:=Zfu (List.getElem_mem a);unfold FiD.len at this;rw[List.length_append];omega
def get_at(h:d.P)(a:n<d.fs.length):d.get d.fs[n].nm=some d.fs[n]:=(get_iff h.2.2.2).2 ⟨List.getElem_mem a,rfl⟩
def isF_of{f:FiD}{s:StD}{n e:Int}(a:SnD (iU (f.su++f.lo)) s e)(b:e=0)(c:NumR f.nm n true)(d:s.q=n):isF f s:=by
 subst b
 rcases a with⟨g,i,_⟩|⟨_,_,h⟩
 .refine⟨g,?_,(snU_iff.1 i).symm⟩
  rcases c with⟨q,_,e,rfl,_⟩|⟨_,_,e⟩
  .rw[d];exact e
  .cases e
 .exact absurd h.symm (Zu4 _)
def isF_num(h:isF f g)(d:NumR f.nm i o):o=true/\i=g.q:=by
 have c:=stP_q h.1
 rcases d with⟨q,a,e,rfl,rfl⟩|⟨a,_,_⟩
 .exact⟨rfl,snNm_inj a c (e.symm.trans h.2.1)⟩
 .exact absurd h.2.1 (a _ c)
def isF_dec{f:FiD}{t s:StD}{e:Int}(h:isF f t)(c:SnD (iU (f.su++f.lo)) s e):e=0/\s=t:=by
 have b:snB t=iU (f.su++f.lo):=snU_iff.2 h.2.2.symm
 rcases c with⟨a,d,g⟩|⟨a,_,_⟩
 .exact⟨g,Zsg a h.1 (d.trans b.symm)⟩
 .exact absurd b (a t h.1)
def nnew_fn(d:DiD)(hd:d.ok):Ct prog 98 {} [d.sv] (λr=>∃s e,r=[StD.sv s,I e]/\NewR d s e):=by
 refine nnew_nf (Cl.of (Zep d hd) ⟨_,rfl,Zaa (λh=>?_) (λh=>?_)⟩)
 .simp at h;exact⟨st0,1,rfl,.inl ⟨h,rfl,rfl⟩⟩
 simp at h;refine Zaa (λg=>⟨st0,16,rfl,.inr (.inl ⟨h,g,rfl,rfl⟩)⟩) (λg=>?_);have O:=h.1.1;refine Cl.of (Zvz d Vo) ⟨_,rfl,?_⟩;have E:rlen (nR (d.fs.map FiD.nm))=d.fs.length:=(by simp[rlen]);rw[E];refine⟨λx y c z=>0<=x/\x<=d.fs.length/\∃o,Best (d.fs.take x.toNat) o/\Hold o y c z,λx _ _ _=>(d.fs.length-x).toNat,⟨Vo,Vo,none,(by rintro t ⟨f,A,_⟩;simp at A),rfl⟩,?_⟩;rintro x y c z ⟨x0,hx,o,hb,hh⟩
 have Q: -1<=c:=by
  cases o with
  |none=>have:c= -1:=hh;omega
  |some s=>obtain⟨_,e,_,p⟩:=hh;have:=(stP_q p).1;omega
 have w:x<d.fs.length->wadd IntKind.i64 x 1=x+1:=λ_=>Zac;refine Zaa (λk=>?_) (λk=>?_)
 .simp at k;have a:x.toNat<d.fs.length:=Vo;have i:d.fs.take (x+1).toNat=d.fs.take x.toNat++[d.fs[x.toNat]]:=by rw[show(x+1).toNat=x.toNat+1 by omega,List.take_succ_eq_append_getElem a]
  have skip:(∀t,isF d.fs[x.toNat] t->∃s,o=some s/\t.q<=s.q)->0<=x+1/\x+1<=d.fs.length/\∃o,Best (d.fs.take (x+1).toNat) o/\Hold o y c z:=λA=>
   ⟨Vo,Vo,o,by rw[i];exact best_skip hb A,hh⟩
  have C:Nl (d.fs.length-(x+1)).toNat (d.fs.length-x).toNat:=mlt Vo;rw[w k];refine⟨⟨x0,k⟩,d.fs[x.toNat].nm,by simp[rget,a],Cl.ofQ (nnum_fn _) ?_⟩;rintro r ⟨n,b,rfl,hn⟩;refine⟨_,_,rfl,Zaa (λl=>⟨rfl,skip λt m=>?_,C⟩) (λl=>?_)⟩
  .obtain⟨D,P⟩:=isF_num m hn;subst D;have F:n<=c:=by simpa using l
   cases o with
   |none=>have:c= -1:=hh;have:=(stP_q m.1).1;omega
   |some s=>obtain⟨_,e,_,_⟩:=hh;exact⟨s,rfl,Vo⟩
  .rw[bor_f]at l;have G:b=true:=(by simpa using l.1);subst G;have F:c<n:=by have:=l.2;simp at this;omega
   have er:d.er d.fs[x.toNat].nm d.fs[x.toNat].nm=0:=Zcr.2 ⟨h,g,h.2.2.1 _ (List.getElem_mem a),h.2.2.1 _ (List.getElem_mem a)⟩;have H:Zft d d.fs[x.toNat].nm=(d.fs[x.toNat].su++d.fs[x.toNat].lo,0):=(by unfold Zft;rw[er,get_at h a];rfl);refine Cl.of (Zn3 d hd _) ⟨_,_,rfl,?_⟩;rw[H];refine Zaa (λh=>by simp at h) (λ_=>?_);have J:=Zo0 h a;have v:=ndec_fn (iU (d.fs[x.toNat].su++d.fs[x.toNat].lo)) (by simp at J|-;omega) (Zsh _);rw[<-uR_bR]at v;refine Cl.ofQ v ?_;rintro r ⟨s,e,rfl,hs⟩;refine⟨_,_,_,_,rfl,Zaa (λu=>⟨rfl,⟨Vo,Vo,some s,?_,rfl,rfl,rfl,?_⟩,C⟩) (λu=>⟨rfl,skip λt m=>?_,C⟩)⟩
   .have j:e=0/\s.q=n:=by
     by_cases e0:e=0
     .exact⟨e0,by simpa[e0]using u⟩
     .simp[e0]at u
    rw[i];refine best_take hb (isF_of hs j.1 hn j.2) λt K=>?_;subst K;obtain⟨_,e1,_,_⟩:=hh;omega
   .have j:e=0:=by
     by_cases e0:e=0
     .exact e0
     .simp[e0]at u
    rcases hs with⟨p,_,_⟩|⟨_,_,p⟩
    .exact p
    .exact absurd (p.symm.trans j) (Zu4 _)
   .exfalso;obtain⟨L,M⟩:=isF_dec m hs;obtain⟨_,N⟩:=isF_num m hn;subst L M N;simp at u
 .simp at k;have i:d.fs.take x.toNat=d.fs:=List.take_of_length_le Vo;rw[i]at hb
  cases o with
  |none=>have:c= -1:=hh;subst this;exact Zaa (λ_=>⟨st0,14,rfl,.inr (.inr ⟨h,g,.inr ⟨rfl,rfl,hb⟩⟩)⟩) (λh=>by simp at h)
  |some s=>obtain⟨rfl,rfl,rfl,p⟩:=hh;have:=(stP_q p).1;exact Zaa (λh=>by simp at h;omega) (λ_=>⟨s,0,rfl,.inr (.inr ⟨h,g,.inl ⟨rfl,hb⟩⟩)⟩)
def Eqv(a b:List FiD):Prop:=∀f:FiD,f.nm≠tmpB->(f∈a↔f∈b)
def er_ok(h:d.P)(hd:d.dn=false)(c:fnB s=true)(e:fnB t=true):d.er s t=0:=Zcr.2 ⟨h,hd,c,e⟩
def newFile(s:StD):FiD:=⟨snNm s.q,snU s,[]⟩
inductive SaveR(d:DiD)(s:StD):DiD×Int->Prop
 |full (h:d.rm+oldN d<usedL d.fs+(snU s).length\/64<d.fs.length+newF d):SaveR d s (d,13)
 |down (x:DiD) (hp:x.P) (hst:d.st≠-1) (he:Eqv x.fs d.fs) (hg:Good d->Good x):SaveR d s (x,16)
 |ok (x:DiD) (hp:x.P) (hd:x.dn=false) (hst:d.st= -1->x.st= -1) (hrm:x.rm=d.rm) (hf:x.fs=withB FiD.nm (wout FiD.nm d.fs tmpB) (newFile s)) (hg:Good d->Good x):SaveR d s (x,0)
end Snp
namespace Jou
open Go Go.Px Go.Proofs Cod Seg Tryz
theorem rdO_uniq{l:List Int}{d i:Sc}{q f:Int}(h:RdO l d q)(b:RdO l i f):d=i/\q=f:=by
 have t:=h.far b.ok b.pre;have u:=b.far h.ok h.pre;have v:=Beg.len b.ok h.ok t;have x:=Beg.len h.ok b.ok u;have e:i=d:=v.2 Vo;subst e;refine⟨rfl,?_⟩
 rcases h.ext with⟨w,k,p,n,r,c,rfl⟩|⟨k,p,n,c,ht,rfl⟩
 .rcases b.ext with⟨s,j,m,o,g,a,rfl⟩|⟨j,m,o,a,ht',rfl⟩
  .rw[c]at a;simp only[Prod.mk.injEq]at a;rw[a.1]
  .rw[c]at a;simp only[Prod.mk.injEq]at a;exact absurd a.1 r
 .rcases b.ext with⟨s,j,m,o,g,a,rfl⟩|⟨j,m,o,a,ht',rfl⟩
  .rw[c]at a;simp only[Prod.mk.injEq]at a;exact absurd a.1.symm g
  .rfl
def addS(d:Sc)(e:EvD):Sc:={d with ev:=d.ev++[e],s:=e.s,a:=e.a,m:=bhdN d.m e.c}
def recB(d:Sc)(e:EvD):List Int:=fr 2 (encL d.s d.a d.m e)
def Zz0{e:EvD}(h:ScOK D)(b:D.num≠0)(k:D.sl=false)(ok:EncOK D.s D.a D.m e):ScOK (addS D e)/\segL (addS D e)=segL D++recB D e:=by
 have g:=h.fin b;simp only[Prod.ext_iff]at g;obtain⟨n,o,p⟩:=g;have i:(fin3 D.bs D.ba [] D.ev).1=D.s:=n.symm;have j:(fin3 D.bs D.ba [] D.ev).2.1=D.a:=o.symm;have f:(fin3 D.bs D.ba [] D.ev).2.2=D.m:=p.symm;refine⟨⟨λl=>absurd l b,λ_=>h.head b,λ_=>?_,λ_=>?_⟩,?_⟩
 .show okL D.bs D.ba [] (D.ev++[e]);rw[Zn5,i,j,f];exact⟨h.evs b,ok⟩
 .show(e.s,e.a,bhdN D.m e.c)=fin3 D.bs D.ba [] (D.ev++[e]);rw[Zkv,f]
 .rw[Zb7 (show(addS D e).num≠0 from b),Zb7 b];unfold slx addS recB;simp only[k,Bool.false_eq_true,if_false,List.append_nil];rw[Zkw,i,j,f,List.append_assoc]
def sealS(d:Sc):Sc:={d with sl:=true}
def seaB(d:Sc):List Int:=fr 3 (slP d.ev.length d.s d.a)
def Zt4{d:Sc}(h:ScOK d)(a:d.num≠0)(b:d.sl=false):ScOK (sealS d)/\segL (sealS d)=segL d++seaB d:=by
 refine⟨⟨λc=>absurd c a,λ_=>h.head a,λ_=>h.evs a,λ_=>h.fin a⟩,?_⟩;rw[Zb7 (show(sealS d).num≠0 from a),Zb7 a];unfold slx sealS seaB;simp only[b,Bool.false_eq_true,if_false,if_true,List.append_nil,List.append_assoc]
def newS(n s a:Int)(e:EvD):Sc:=mkS n s a [e] false
def Zz1{e:EvD}(h:headOK i j k)(ok:EncOK j k [] e):ScOK (newS i j k e)/\segL (newS i j k e)=fr 1 (hdP i j k)++fr 2 (encL j k [] e):=by
 have b:i≠0:=(by have:=h.1.1;omega);refine⟨mkS_ok false h ⟨ok,trivial⟩,?_⟩;unfold newS;rw[segL_mk b];simp[recL]
end Jou
namespace Jou
open Go Go.Px Go.Proofs Cod Seg Sgr Snp Tryz
abbrev spre:List UInt8:=[115,101,103,46]
def segNm(n:Int):BA:=⟨(spre++dgs 8 n.toNat).toArray⟩
def inN(n:Int):Prop:=1<=n/\n<=99999999
instance (n:Int):Decidable (inN n):=inferInstanceAs (Decidable (_/\_))
theorem Zcn(n:Int):(segNm n).data.toList=spre++dgs 8 n.toNat:=by simp[segNm]
def Zuj{n:Int}(h:inN n):(vD ((segNm n).data.toList.drop 4):Int)=n:=by
 unfold inN at h;rw[Zcn,show(spre++dgs 8 n.toNat).drop 4=dgs 8 n.toNat from rfl,Zrb 8 _ Vo];omega
def numS(s:BA):Int:=if inN (vD (s.data.toList.drop 4):Int)/\s=segNm (vD (s.data.toList.drop 4):Int)then(vD (s.data.toList.drop 4):Int)else 0
def Zuk{n:Int}(h:inN n):numS (segNm n)=n:=by
 unfold numS;rw[Zuj h,if_pos ⟨h,rfl⟩]
def Zc0(h:numS s≠0):inN (numS s)/\s=segNm (numS s):=by
 unfold numS at h|-
 split
 next g=>exact g
 next g=>rw[if_neg g]at h;exact absurd rfl h
def lex_app:∀{a b:List UInt8} (x y:List UInt8),a.length=b.length->a<b->a++x<b++y
 | [],[],x,y,_,h=>absurd h (List.lt_irrefl _)
 | [],_::_,_,_,hl,_=>by simp at hl
 |_::_,[],_,_,hl,_=>by simp at hl
 |c::a,d::b,x,y,hl,h=>by
  rw[Y2,Y2,YG]
  rcases YG.1 h with h|⟨h1,h2⟩
  .exact .inl h
  .exact .inr ⟨h1,lex_app x y (by simpa using hl) h2⟩
def Zr0:∀(p:List UInt8) {a b:List UInt8},a<b->p++a<p++b
 | [],_,_,h=>h
 |c::p,a,b,h=>by rw[Y2,Y2,YG];exact .inr ⟨rfl,Zr0 p h⟩
def dgs_lt:∀(k a b:Nat),a<b->b<10^k->dgs k a<dgs k b
 |0,a,b,h,hb=>by simp at hb;omega
 |k+1,a,b,h,hb=>by
  rw[dgs,dgs];by_cases e:a/10=b/10
  .rw[e];refine Zr0 _ ?_;rw[YG]
   left
   rw[UInt8.lt_iff_toNat_lt];simp only[UInt8.toNat_ofNat'];omega
  .refine lex_app _ _ (by rw[Zd9,Zd9]) (dgs_lt k _ _ Vo ?_);rw[Nat.pow_succ]at hb;omega
def Zul(c:inN i)(d:inN b)(h:i<b):nlt (segNm i) (segNm b):=by
 unfold nlt;rw[Zcn,Zcn];unfold inN at c d;exact Zr0 _ (dgs_lt 8 _ _ Vo Vo)
structure Pt where
 d:Sc
 n:Nat
def foll(p a:Sc):Prop:=a.sl=true/\p.num=a.num+1/\p.bs=a.s/\p.ba=a.a
instance (p a:Sc):Decidable (foll p a):=inferInstanceAs (Decidable (_/\_))
def isSeg(f:FiD):Bool:=decide (numS f.nm≠0)
def segs(l:List FiD):List FiD:=l.filter isSeg
abbrev ptF(a:FiD->Sc)(f:FiD):Pt:=⟨a f,f.len⟩
def mayR(b:FiD->Sc)(r:List Pt)(o:List BA)(f:FiD):Prop:=o=[]/\(b f).num=numS f.nm/\(match r.getLast? with|none=>True|some a=>foll (b f) a.d)
instance (sc:FiD->Sc) (r:List Pt) (o:List BA) (f:FiD):Decidable (mayR sc r o f):=by
 unfold mayR
 cases r.getLast?<;>infer_instance
def rstep(b:FiD->Sc)(a:List Pt×List BA)(f:FiD):List Pt×List BA:=
 if numS f.nm=0 then a else if mayR b a.1 a.2 f then(a.1++[ptF b f],a.2)else(a.1,a.2++[f.nm])
def rowsD(a:FiD->Sc)(l:List FiD):List Pt×List BA:=l.foldl (rstep a) ([],[])
def Zdj(b:FiD->Sc):∀(l:List FiD) (a:List Pt×List BA),l.foldl (rstep b) a=(segs l).foldl (rstep b) a
 | [],a=>rfl
 |f::l,a=>by
  unfold segs;rw[List.foldl_cons,List.filter_cons];by_cases h:numS f.nm=0
  .have e:isSeg f=false:=(by unfold isSeg;simp[h]);rw[e,if_neg Vs,show rstep b a f=a from if_pos h];exact Zdj b l a
  .have e:isSeg f=true:=(by unfold isSeg;simp[h]);rw[e,if_pos rfl,List.foldl_cons];exact Zdj b l _
def inRow(b:FiD->Sc):Option Sc->List FiD->Prop
 |_,[]=>True
 |p,f::l=>(b f).num=numS f.nm/\(match p with|none=>True|some a=>foll (b f) a)/\inRow b (some (b f)) l
def Zr1(b:FiD->Sc):∀(l:List FiD) (r:List Pt),(∀f∈l,numS f.nm≠0)->inRow b (r.getLast?.map (·.d)) l->l.foldl (rstep b) (r,[])=(r++l.map (ptF b),[])
 | [],r,_,_=>Vs
 |f::l,r,hn,h=>by
  obtain⟨i,e,j⟩:=h;rw[List.foldl_cons]
  have k:mayR b r [] f:=by
   refine⟨rfl,i,?_⟩
   cases c:r.getLast? with
   |none=>trivial
   |some a=>rw[c]at e;exact e
  rw[show rstep b (r,[]) f=(r++[ptF b f],[])from by unfold rstep;rw[if_neg (hn f Vs),if_pos k]];rw[Zr1 b l (r++[ptF b f]) (λg c=>hn g (by simp[c])) (by simpa using j)];simp
def Zn8(a:FiD->Sc):∀(l:List FiD) (r:List Pt) (o:List BA),o≠[]->((l.foldl (rstep a) (r,o)).2≠[])
 | [],r,o,h=>h
 |f::l,r,o,h=>by
  rw[List.foldl_cons];unfold rstep
  split
  .exact Zn8 a l r o h
  .rw[if_neg (λq=>h q.1)];exact Zn8 a l r _ Vs
def rows_in'(b:FiD->Sc):∀(l:List FiD) (r:List Pt),(∀f∈l,numS f.nm≠0)->(l.foldl (rstep b) (r,[])).2=[]->inRow b (r.getLast?.map (·.d)) l
 | [],r,_,_=>trivial
 |f::l,r,hn,h=>by
  rw[List.foldl_cons]at h;by_cases hm:mayR b r [] f
  .rw[show rstep b (r,[]) f=(r++[ptF b f],[])from by unfold rstep;rw[if_neg (hn f Vs),if_pos hm]]at h;obtain⟨_,i,e⟩:=hm;refine⟨i,?_,?_⟩
   .cases c:r.getLast? with
    |none=>trivial
    |some a=>rw[c]at e;exact e
   .have:=rows_in' b l (r++[ptF b f]) (λg c=>hn g (by simp[c])) h
    simpa using this
  .rw[show rstep b (r,[]) f=(r,[]++[f.nm])from by unfold rstep;rw[if_neg (hn f Vs),if_neg hm]]at h;exact absurd h (Zn8 b l r _ Vs)
def Zb9:∀f∈segs y,numS f.nm≠0:=λf a=>by
 have:=(List.mem_filter.1 a).2
 simpa[isSeg]using this
def rows_iff{a:FiD->Sc}:(rowsD a y).2=[]↔inRow a none (segs y):=by
 unfold rowsD;rw[Zdj];exact⟨λh=>rows_in' a _ [] Zb9 h,λh=>by rw[Zr1 a _ [] Zb9 h]⟩
def Zn9{a:FiD->Sc}(h:inRow a none (segs y)):rowsD a y=((segs y).map (ptF a),[]):=by
 unfold rowsD;rw[Zdj,Zr1 a _ [] Zb9 h];simp
theorem withB_map(a:srt FiD.nm y)(b:∃g∈y,g.nm=f.nm):withB FiD.nm y f=y.map λg=>if g.nm=f.nm then f else g:=by
 obtain⟨g,c,e⟩:=b;obtain⟨i,d,rfl⟩:=List.mem_iff_getElem.1 c;rw[<-Zh6 a d e.symm];apply YY
 .simp
 grind [srt_inj]
theorem segs_map{g:FiD->FiD}(h:∀x,(g x).nm=x.nm):segs (y.map g)=(segs y).map g:=by
 unfold segs;rw[List.filter_map];congr 1;apply List.filter_congr
 grind [isSeg]
def Zv3(a:srt FiD.nm y)(b:∃g∈y,g.nm=f.nm):segs (withB FiD.nm y f)=(segs y).map λg=>if g.nm=f.nm then f else g:=by
 grind [withB_map,segs_map]
def Zq7{l a:List FiD}{g f:FiD}(c:srt FiD.nm l)(e:segs l=a++[g])(d:g.nm=f.nm):segs (withB FiD.nm l f)=a++[f]:=by
 have h:g∈l:=(List.mem_filter.1 (show g∈l.filter isSeg by rw[show l.filter isSeg=a++[g]from e];simp)).1;rw[Zv3 c ⟨g,h,d⟩,e,List.map_append];congr 1
 .have b:srt FiD.nm (segs l):=YL _ c;rw[e]at b;have i:=(List.pairwise_append.1 b).2.2
  conv=>rhs;rw[<-YQ a]
  apply List.map_congr_left
  simp_all[Zjk]
 .simp[d]
def Zes(b:FiD->Sc):∀(l:List FiD) (p:Option Sc) (f:FiD),inRow b p (l++[f])↔inRow b p l/\(b f).num=numS f.nm/\(match(l.getLast?.map b).or p with|none=>True|some a=>foll (b f) a)
 | [],p,f=>by cases p<;>simp[inRow]
 |g::l,p,f=>by
  rw[Y2];show _/\_/\inRow b (some (b g)) (l++[f])↔(_/\_/\inRow b (some (b g)) l)/\_;rw[Zes b l (some (b g)) f]
  grind
def Zv4(a b:List FiD):segs (a++b)=segs a++segs b:=List.filter_append ..
def segs_new{l:List FiD}{f:FiD}(u:srt FiD.nm l)(hno:∀g∈l,g.nm≠f.nm)(m:numS f.nm≠0)(j:∀g∈segs l,numS g.nm<numS f.nm):segs (withB FiD.nm l f)=segs l++[f]:=by
 rw[Zer hno];have c:ahd FiD.nm l f.nm++bhd FiD.nm l f.nm=l:=Wk
 have k:segs (bhd FiD.nm l f.nm)=[]:=by
  apply Yu.2;intro x hx b;have n:x∈l:=by rw[<-c];exact List.mem_append.2 (.inr hx)
  have o:numS x.nm≠0:=(by simpa[isSeg]using b);have A:=j x (List.mem_filter.2 ⟨n,b⟩);obtain⟨v,e1⟩:=Zc0 o;obtain⟨w,e2⟩:=Zc0 m;have q:nlt x.nm f.nm:=by rw[e1,e2];exact Zul v w A
  have d:∀y∈bhd FiD.nm l f.nm,¬nlt y.nm f.nm:=by
   intro y a h;have i:srt FiD.nm (bhd FiD.nm l f.nm):=by have:=u;rw[<-c]at this;exact(List.pairwise_append.1 this).2.1
   cases hbb:bhd FiD.nm l f.nm with
   |nil=>rw[hbb]at a;cases a
   |cons z r=>
    have s:¬nlt z.nm f.nm:=by
     have:=List.head?_dropWhile_not (p:=λg:FiD=>decide (nlt g.nm f.nm)) l;unfold bhd at hbb;rw[hbb]at this
     simpa using this
    rw[hbb]at a i
    rcases List.mem_cons.1 a with rfl|a
    .exact s h
    .have C:nlt z.nm y.nm:=(List.pairwise_cons.1 i).1 y a;exact s (Y06 C h)
  exact d x hx q
 have e:segs l=segs (ahd FiD.nm l f.nm):=by
  conv=>lhs;rw[<-c,Zv4,k,List.append_nil]
 show segs (ahd FiD.nm l f.nm++f::bhd FiD.nm l f.nm)=_;rw[Zv4,e];congr 1
 show segs (f::bhd FiD.nm l f.nm)=[f]
 have t:isSeg f=true:=(by simp[isSeg,m]);unfold segs at k|-;rw[List.filter_cons,t,if_pos rfl,k]
def byF(f:FiD):List Int:=(f.su++f.lo).map λb=>(b.toNat:Int)
open Classical in
noncomputable def scF(f:FiD):Sc:=if h:∃d st,RdO (byF f) d st then h.choose else sc0
def Zv5{d:Sc}{st:Int}(h:RdO (byF f) d st):scF f=d:=by
 have hx:∃d st,RdO (byF f) d st:=⟨d,st,h⟩
 grind [scF,rdO_uniq]
def rdO_self(h:ScOK D):RdO (segL D) D (endW 1 D.sl):=by
 refine⟨h,List.prefix_rfl,.inl ⟨1,(nextR []).2.1,(nextR []).2.2.1,(nextR []).2.2.2,Vd,?_,rfl⟩⟩;rw[List.drop_length];rfl
def Zbw{f:FiD}{d:Sc}(h:ScOK d)(a:byF f=segL d):scF f=d:=Zv5 (st:=endW 1 d.sl) (by rw[a];exact rdO_self h)
def byF_app(s:BA)(a c x:List UInt8):byF ⟨s,a,c++x⟩=byF ⟨s,a,c⟩++x.map λb=>(b.toNat:Int):=by
 grind [byF]
end Jou
namespace Jou
open Go Go.Px Go.Proofs Cod Seg Sgr Snp Sx Row Tryz
open Classical in
noncomputable def newF(l:List FiD):Option StD:=if h:∃s,Best l (some s)then some h.choose else none
def Ztr{o:Option StD}(a:srt FiD.nm y)(h:Best y o):newF y=o:=by
 unfold newF
 cases o with
 |none=>rw[dif_neg];rintro⟨s,b⟩;exact h s b.1
 |some s=>
  have hx:∃s,Best y (some s):=⟨s,h⟩
  rw[dif_pos hx];exact congrArg some (best_uniq a hx.choose_spec h)
def Zf3(h:numS s≠0)(q:Int):s≠snNm q:=by
 intro e;obtain⟨_,e2⟩:=Zc0 h;have:=congrArg (λb:BA=>b.data.toList.length) (e.symm.trans e2);simp only[Zew,Zcn,List.length_append,Zd9]at this;simp at this
def cand_seg(b:numS f.nm≠0)(t:StD):Cand (withB FiD.nm y f) t↔Cand y t:=by
 constructor
 .rintro⟨g,a,h⟩
  rcases Zeq.1 a with rfl|⟨a,_⟩
  .exact absurd h.2.1 (Zf3 b _)
  .exact⟨g,a,h⟩
 .rintro⟨g,a,h⟩;exact⟨g,Zeq.2 (.inr ⟨a,λe=>Zf3 b _ (e.symm.trans h.2.1)⟩),h⟩
def Zzc(h:∀t,Cand y t↔Cand Y t){o:Option StD}:Best y o↔Best Y o:=by
 cases o with
 |none=>exact⟨λg t q=>g t ((h t).2 q),λg t q=>g t ((h t).1 q)⟩
 |some s=>exact⟨λg=>⟨(h s).1 g.1,λt q=>g.2 t ((h t).2 q)⟩,λg=>⟨(h s).2 g.1,λt q=>g.2 t ((h t).1 q)⟩⟩
def Znm{l a:List FiD}(h:∀t,Cand l t↔Cand a t):newF l=newF a:=by
 have e:Best l=Best a:=funext λo=>propext (Zzc h);unfold newF;rw[e]
def Zw4{l:List FiD}{f:FiD}(a:numS f.nm≠0):newF (withB FiD.nm l f)=newF l:=Znm λt=>cand_seg a t
noncomputable def keptF(l:List FiD):Int:=match newF l with|none=>0|some s=>s.q
noncomputable def baseF(l:List FiD):StD:=match newF l with|none=>st0|some s=>s
def toE(e:Cod.EvD):Cmp.EvD:=⟨e.s,e.a,e.k,e.c,e.x,e.y,e.z⟩
def evsR(r:List Pt):List Cmp.EvD:=r.flatMap λp=>p.d.ev.map toE
def stR(r:List Pt)(k:Int)(s:StD):StD:=(foldS s ((evsR r).filter λe=>decide (k<e.s))).1
structure GoodR(r:List Pt)(k:Int)(s:StD):Prop where
 bs:∀p∈r.head?,p.d.bs<=k
 cnt:∀p∈r,(p.d.ev.length:Int)=p.d.s-p.d.bs
 app:(foldS s ((evsR r).filter λe=>decide (k<e.s))).2.2=0
 at_:∀p∈r.getLast?,p.d.a=(stR r k s).t
def Zi2:∀(l:List Cmp.EvD) (d:StD) (e:Cmp.EvD),(foldS d l).2.2=0->(appS (foldS d l).1 e).2=0->(foldS d (l++[e])).1=(appS (foldS d l).1 e).1/\(foldS d (l++[e])).2.2=0
 | [],d,e,_,h=>by simp only[foldS]at h|-;rw[Y5,foldS,if_neg (by simpa using h)];exact⟨rfl,rfl⟩
 |x::l,d,e,h0,h=>by
  rw[foldS]at h0 h;rw[Y2,foldS,foldS];by_cases hx:(appS d x).2≠0
  .rw[if_pos hx]at h0;exact absurd h0 hx
  .rw[if_neg hx]at h0 h|-;rw[if_neg hx];exact Zi2 l _ e h0 h
def Zw5{e:Cmp.EvD}(h:(appS g e).2=0):(appS g e).1.q=e.s/\(appS g e).1.t=e.a:=by
 unfold appS at h|-
 split
 next d=>rw[if_pos d]at h;exact absurd h d
 .exact⟨rfl,rfl⟩
def Zgk(a b:List Pt):evsR (a++b)=evsR a++evsR b:=by unfold evsR;rw[List.flatMap_append]
def goodR_add{b:List Pt}{p q:Pt}{e:Cod.EvD}(h:GoodR (b++[p]) k g)(c:q.d.bs=p.d.bs)(f:q.d.ev=p.d.ev++[e])(l:q.d.s=e.s)(m:q.d.a=e.a)(i:e.s=p.d.s+1)(n:k<e.s)(ok:(appS (stR (b++[p]) k g) (toE e)).2=0):
  GoodR (b++[q]) k g/\stR (b++[q]) k g=(appS (stR (b++[p]) k g) (toE e)).1:=by
 have j:(evsR (b++[q])).filter (λe=>decide (k<e.s))=(evsR (b++[p])).filter (λe=>decide (k<e.s))++[toE e]:=(by rw[Zgk,Zgk];have t:evsR [q]=evsR [p]++[toE e]:=(by simp[evsR,f]);rw[t,<-List.append_assoc,List.filter_append];congr 1;simp[toE,n]);obtain⟨o,r⟩:=Zi2 _ g (toE e) h.app (by have:=ok;unfold stR at this;exact this);have hst:stR (b++[q]) k g=(appS (stR (b++[p]) k g) (toE e)).1:=(by unfold stR;rw[j,o]);refine⟨⟨?_,?_,?_,?_⟩,hst⟩
 .intro x hx
  cases b with
  |nil=>have:x=q:=(by simpa using hx.symm);subst this;rw[c];exact h.bs p Vs
  |cons s b=>exact h.bs x (by simpa using hx)
 .intro x hx
  rcases List.mem_append.1 hx with hx|hx
  .exact h.cnt x (by simp[hx])
  .have:x=q:=(by simpa using hx);subst this;have:=h.cnt p Vs;rw[f,c,l,i,List.length_append];simp only[Wj];omega
 .rw[j];exact r
 .intro x hx;have:x=q:=(by simpa using hx.symm);subst this;rw[hst,(Zw5 ok).2,m];rfl
def Zzd{b:List Pt}{p q:Pt}{k:Int}{s:StD}(h:GoodR (b++[p]) k s)(c:q.d.bs=p.d.bs)(e:q.d.ev=p.d.ev)(i:q.d.s=p.d.s)(j:q.d.a=p.d.a):
  GoodR (b++[q]) k s/\stR (b++[q]) k s=stR (b++[p]) k s:=by
 have f:evsR (b++[q])=evsR (b++[p]):=(by rw[Zgk,Zgk];simp[evsR,e]);have hst:stR (b++[q]) k s=stR (b++[p]) k s:=(by unfold stR;rw[f]);refine⟨⟨?_,?_,by rw[f];exact h.app,?_⟩,hst⟩
 .intro x hx
  cases b with
  |nil=>have:x=q:=(by simpa using hx.symm);subst this;rw[c];exact h.bs p Vs
  |cons g b=>exact h.bs x (by simpa using hx)
 .intro x hx
  rcases List.mem_append.1 hx with hx|hx
  .exact h.cnt x (by simp[hx])
  .have:x=q:=(by simpa using hx);subst this;have:=h.cnt p Vs;rw[e,c,i];exact this
 .intro x hx;have:x=q:=(by simpa using hx.symm);subst this;rw[hst,j];exact h.at_ p Vs
def goodR_new{r:List Pt}{q:Pt}{e:Cod.EvD}(h:GoodR r k g)(b:q.d.ev=[e])(j:q.d.s=e.s)(l:q.d.a=e.a)(c:e.s=q.d.bs+1)(m:k<e.s)(f:r=[]->q.d.bs<=k)(ok:(appS (stR r k g) (toE e)).2=0):
  GoodR (r++[q]) k g/\stR (r++[q]) k g=(appS (stR r k g) (toE e)).1:=by
 have i:(evsR (r++[q])).filter (λe=>decide (k<e.s))=(evsR r).filter (λe=>decide (k<e.s))++[toE e]:=(by rw[Zgk,List.filter_append];congr 1;simp[evsR,b,toE,m]);obtain⟨n,o⟩:=Zi2 _ g (toE e) h.app (by have:=ok;unfold stR at this;exact this);have hst:stR (r++[q]) k g=(appS (stR r k g) (toE e)).1:=(by unfold stR;rw[i,n]);refine⟨⟨?_,?_,by rw[i];exact o,?_⟩,hst⟩
 .intro x hx
  cases r with
  |nil=>have:x=q:=(by simpa using hx.symm);subst this;exact f rfl
  |cons s p=>exact h.bs x (by simpa using hx)
 .intro x hx
  rcases List.mem_append.1 hx with hx|hx
  .exact h.cnt x hx
  .have:x=q:=(by simpa using hx);subst this;rw[b,j,c];simp only[Wj];omega
 .intro x hx;have:x=q:=(by simpa using hx.symm);subst this;rw[hst,(Zw5 ok).2,l];rfl
def Zis(f:FiD):(byF f).length=f.len:=by unfold byF FiD.len;simp
def Zk7(h:(scF f).num≠0):ScOK (scF f)/\segL (scF f)<+:byF f:=by
 by_cases hx:∃d b,RdO (byF f) d b
 .obtain⟨d,b,a⟩:=hx;rw[Zv5 a];exact⟨a.ok,a.pre⟩
 .exfalso;apply h;unfold scF;rw[dif_neg hx];rfl
def scF_all(h:(scF f).num≠0)(a:f.len=(segL (scF f)).length):byF f=segL (scF f):=by
 obtain⟨_,b⟩:=Zk7 h;exact(b.eq_of_length (by rw[Zis,a])).symm
def foll_same{d b a:Sc}(c:b.num=d.num)(e:b.bs=d.bs)(f:b.ba=d.ba):foll b a↔foll d a:=by
 unfold foll;rw[c,e,f]
def row_last{l i:List FiD}{g f:FiD}{b:Sc}(p:srt FiD.nm l)(c:inRow scF none (segs l))(e:segs l=i++[g])(k:g.nm=f.nm)(m:ScOK b)(q:byF f=segL b)(n:b.num=(scF g).num)(r:b.bs=(scF g).bs)(s:b.ba=(scF g).ba):
  inRow scF none (segs (withB FiD.nm l f))/\rowsD scF (withB FiD.nm l f)=(i.map (ptF scF)++[⟨b,f.len⟩],[])/\segs (withB FiD.nm l f)=i++[f]:=by
 have d:=Zq7 p e k;have j:scF f=b:=Zbw m q;rw[e,Zes]at c
 have h:inRow scF none (segs (withB FiD.nm l f)):=by
  rw[d,Zes];refine⟨c.1,by rw[j,n,c.2.1,k],?_⟩;have o:=c.2.2
  cases hg:(i.getLast?.map scF).or none with
  |none=>trivial
  |some a=>rw[hg]at o;rw[j];exact(foll_same n r s).2 o
 refine⟨h,?_,d⟩;rw[Zn9 h,d,List.map_append];simp[ptF,j]
def row_new{l:List FiD}{f:FiD}{a:Sc}(m:srt FiD.nm l)(i:inRow scF none (segs l))(hno:∀g∈l,g.nm≠f.nm)(j:numS f.nm≠0)(d:∀g∈segs l,numS g.nm<numS f.nm)(k:ScOK a)(n:byF f=segL a)(o:a.num=numS f.nm)(e:∀g,(segs l).getLast?=some g->foll a (scF g)):
  inRow scF none (segs (withB FiD.nm l f))/\rowsD scF (withB FiD.nm l f)=((segs l).map (ptF scF)++[⟨a,f.len⟩],[])/\segs (withB FiD.nm l f)=segs l++[f]:=by
 have b:=segs_new m hno j d;have h:scF f=a:=Zbw k n
 have c:inRow scF none (segs (withB FiD.nm l f)):=by
  rw[b,Zes];refine⟨i,by rw[h,o],?_⟩
  cases hg:(segs l).getLast? with
  |none=>trivial
  |some g=>show foll (scF f) (scF g);rw[h];exact e g hg
 refine⟨c,?_,b⟩;rw[Zn9 c,b,List.map_append];simp[ptF,h]
structure SgD where
 num:Int
 fi:Int
 la:Int
 fr:Int
 ti:Int
 sz:Int
 sl:Bool
deriving DecidableEq
structure CxD where
 s:Int
 a:Int
 m:List BA
deriving DecidableEq
structure JoD where
 dk:DiD
 cb:Int
 cg:Int
 sg:List SgD
 cx:CxD
 st:StD
 sure:Int
 kept:Int
 shut:Bool
def sgOf(p:Pt):SgD:=⟨p.d.num,p.d.bs,p.d.s,p.d.ba,p.d.a,(segL p.d).length,p.d.sl⟩
def Zbg(r:List Pt):CxD:=match r.getLast? with|none=>⟨0,0,[]⟩|some p=>if p.d.sl=true then⟨0,0,[]⟩else⟨p.d.s,p.d.a,p.d.m⟩
def mayC(b g:Int):Prop:=64<=b/\b<=65536/\1<=g/\g<=1099511627776
noncomputable def rowK(l:List FiD):List Pt×List BA:=match(rowsD scF l).1.getLast? with
 |none=>rowsD scF l
 |some p=>if p.d.s<keptF l then([],(rowsD scF l).1.map (λp=>segNm p.d.num)++(rowsD scF l).2)else rowsD scF l
noncomputable def anewJ(a:DiD)(d e b:Int)(c:Bool):JoD:=
 ⟨a,d,e,(rowK a.fs).1.map sgOf,Zbg (rowK a.fs).1,stR (rowK a.fs).1 (keptF a.fs) (baseF a.fs),b,keptF a.fs,c⟩
structure RightJ(j:JoD):Prop where
 cfg:mayC j.cb j.cg
 dk:j.dk.P
 up:j.dk.dn=false
 out:(rowK j.dk.fs).2=[]
 good:GoodR (rowK j.dk.fs).1 (keptF j.dk.fs) (baseF j.dk.fs)
 all:∀p∈(rowK j.dk.fs).1,p.n=(segL p.d).length
 eq:j=anewJ j.dk j.cb j.cg j.sure j.shut
 sure:keptF j.dk.fs<=j.sure/\j.sure<=j.st.q
structure DkR(l gs:List FiD):Prop where
 srt:srt FiD.nm l
 eq:segs l=gs
 inr:inRow scF none gs
 kept:∀p,(gs.map (ptF scF)).getLast?=some p->keptF l<=p.d.s
def Zg0(h:DkR y Y):rowK y=(Y.map (ptF scF),[]):=by
 have e:rowsD scF y=(Y.map (ptF scF),[]):=(by rw[Zn9 (by rw[h.eq];exact h.inr),h.eq]);unfold rowK;rw[e]
 cases hg:(Y.map (ptF scF)).getLast? with
 |none=>rfl
 |some p=>have:=h.kept p hg;simp only;rw[if_neg Vo]
def dkR_of(c:srt FiD.nm y)(h:(rowK y).2=[]):DkR y (segs y):=by
 have a:(rowsD scF y).2=[]/\∀p,(rowsD scF y).1.getLast?=some p->keptF y<=p.d.s:=by
  unfold rowK at h
  cases hg:(rowsD scF y).1.getLast? with
  |none=>rw[hg]at h;exact⟨h,λp q=>by cases q⟩
  |some p=>
   rw[hg]at h;simp only at h
   split at h
   .exfalso;have:=WY.1 h;have g:(rowsD scF y).1=[]:=(by simpa using this.1);rw[g]at hg;cases hg
   .exact⟨h,λq e=>by cases e;omega⟩
 have b:=rows_iff.1 a.1;refine⟨c,rfl,b,λp f=>a.2 p ?_⟩;rw[Zn9 b];exact f
def Zdk{l:List FiD}{f:FiD}(a:numS f.nm≠0):keptF (withB FiD.nm l f)=keptF l:=by unfold keptF;rw[Zw4 a]
def Zfr{l:List FiD}{f:FiD}(a:numS f.nm≠0):baseF (withB FiD.nm l f)=baseF l:=by unfold baseF;rw[Zw4 a]
def Cns:Int->List Cmp.EvD->Int->Prop
 |a,[],b=>a=b
 |a,e::l,b=>e.s=a+1/\Cns e.s l b
def Zu0:∀{l:List Cmp.EvD} {a b:Int},Cns a l b->b=a+l.length
 | [],a,b,h=>by simp only[Cns]at h;simp[h]
 |e::l,a,b,h=>by obtain⟨d,c⟩:=h;have:=Zu0 c;rw[List.length_cons];omega
def cns_app:∀{l m:List Cmp.EvD} {a b c:Int},Cns a l b->Cns b m c->Cns a (l++m) c
 | [],m,a,b,c,h,k=>by simp only[Cns]at h;subst h;exact k
 |e::l,m,a,b,c,h,k=>⟨h.1,cns_app h.2 k⟩
def Zu1:∀(l:List Cod.EvD) (s a:Int) (m:List BA),okL s a m l->(fin3 s a m l).1=s+l.length->Cns s (l.map toE) (fin3 s a m l).1
 | [],s,a,m,_,_=>rfl
 |e::l,s,a,m,h,hf=>by obtain⟨f,b⟩:=h;have g:=Zpo l e.s e.a (bhdN m e.c) b;have i:=f.seq;have d:(fin3 e.s e.a (bhdN m e.c) l).1=s+(l.length+1):=(by have:(fin3 s a m (e::l)).1=(fin3 e.s e.a (bhdN m e.c) l).1:=rfl;rw[<-this,hf,List.length_cons];omega);have e1:e.s=s+1:=Vo;refine⟨e1,?_⟩;exact Zu1 l e.s e.a (bhdN m e.c) b (by rw[d];omega)
def Zoe(h:ScOK D)(b:D.num≠0)(c:(D.ev.length:Int)=D.s-D.bs):Cns D.bs (D.ev.map toE) D.s:=by
 have a:=h.fin b;simp only[Prod.ext_iff]at a;have:=Zu1 D.ev D.bs D.ba [] (h.evs b) (by rw[<-a.1];omega);rw[<-a.1]at this;exact this
def Zsb:∀(b:List FiD) (g:FiD),inRow scF none (b++[g])->(∀f∈b++[g],numS f.nm≠0)->(∀p∈(b++[g]).map (ptF scF),(p.d.ev.length:Int)=p.d.s-p.d.bs)->∀p∈((b++[g]).map (ptF scF)).head?,Cns p.d.bs (evsR ((b++[g]).map (ptF scF))) (scF g).s:=by
 intro b
 induction hlen:b.length generalizing b with
 |zero=>
  have:b=[]:=Ys.1 hlen;subst this;intro g h j l p m;have e:p=ptF scF g:=(by simpa using m.symm);subst e;have c:(scF g).num≠0:=(by have:=h.1;rw[this];exact j g Vs);have:=Zoe (Zk7 c).1 c (l (ptF scF g) Vs)
  simpa[evsR,ptF]using this
 |succ k o=>
  rcases Y4 b with rfl|⟨b,x,rfl⟩
  .simp at hlen
  rw[List.concat_eq_append]at hlen|-;have o:=o b (by simpa using hlen);intro g h j l p m;rw[Zes]at h;obtain⟨v,w,z⟩:=h;have c:(scF g).num≠0:=by rw[w];exact j g Vs
  have t:p∈((b++[x]).map (ptF scF)).head?:=by
   cases b with
   |nil=>simpa using m
   |cons y b=>simpa using m
  have C:=o x v (λf i=>j f (by simp at i|-;rcases i with i|i;exact .inl i;exact .inr (.inl i))) (λq r=>l q (by simp at r|-;rcases r with⟨a,A,e⟩|e;exact .inl ⟨a,A,e⟩;exact .inr (.inl e))) p t;have u:foll (scF g) (scF x):=(by simpa using z);have n:=Zoe (Zk7 c).1 c (l (ptF scF g) Vs);rw[u.2.2.1]at n;rw[List.map_append,Zgk];refine cns_app C ?_
  simpa[evsR,ptF]using n
def Zmx:∀{l:List Cmp.EvD} {a b:Int} (k:Int),Cns a l b->a<=k->k<=b->Cns k (l.filter λe=>decide (k<e.s)) b
 | [],a,b,k,h,h1,h2=>by simp only[Cns]at h;subst h;show Cns k [] a;simp only[Cns];omega
 |e::l,a,b,k,h,h1,h2=>by
  obtain⟨d,c⟩:=h;rw[List.filter_cons];by_cases hk:k<e.s
  .rw[if_pos (by simpa using hk)];have e1:k=a:=Vo;subst e1;refine⟨d,?_⟩
   have:(l.filter λe=>decide (k<e.s))=l:=by
    apply List.filter_eq_self.2;intro x hx
    have f:∀{l:List Cmp.EvD} {a b:Int},Cns a l b->∀x∈l,a<x.s:=by
     intro l
     induction l with
     |nil=>intro a b _ x hx;cases hx
     |cons y l g=>
      intro a b h x hx
      rcases List.mem_cons.1 hx with rfl|hx
      .have:=h.1;omega
      .have:=g h.2 x hx;have:=h.1;omega
    have:=f c x hx;simp;omega
   rw[this];exact c
  .rw[if_neg (by simpa using hk)];exact Zmx k c Vo h2
def fold_q:∀{l:List Cmp.EvD} {d:StD} {b:Int},Cns d.q l b->(foldS d l).2.2=0->(foldS d l).1.q=b
 | [],d,b,h,_=>h
 |e::l,d,b,h,h0=>by
  rw[foldS]at h0|-;by_cases hx:(appS d e).2≠0
  .rw[if_pos hx]at h0;exact absurd h0 hx
  .rw[if_neg hx]at h0|-;have hx:(appS d e).2=0:=(by simpa using hx);refine fold_q ?_ h0;rw[(Zw5 hx).1];exact h.2
theorem Zqh(l:List FiD):(baseF l).q=keptF l:=by
 unfold baseF keptF
 cases newF l<;>rfl
def stR_q(h:DkR y (Y++[f]))(b:GoodR ((Y++[f]).map (ptF scF)) (keptF y) (baseF y)):(stR ((Y++[f]).map (ptF scF)) (keptF y) (baseF y)).q=(scF f).s:=by
 have c:∀g∈Y++[f],numS g.nm≠0:=by rw[<-h.eq];exact Zb9
 obtain⟨p,hp⟩:∃p,((Y++[f]).map (ptF scF)).head?=some p:=by
  cases Y with
  |nil=>exact⟨_,rfl⟩
  |cons l Y=>exact⟨_,rfl⟩
 have d:=Zsb Y f h.inr c b.cnt p hp;have e:=b.bs p hp;have i:=h.kept (ptF scF f) Vs;have j:=Zmx (keptF y) d e i;unfold stR;exact fold_q (by rw[Zqh];exact j) b.app
def RightJ.dkr{j:JoD}(h:RightJ j):DkR j.dk.fs (segs j.dk.fs):=dkR_of h.dk.2.2.2 h.out
theorem RightJ.row{j:JoD}(h:RightJ j):(rowK j.dk.fs).1=(segs j.dk.fs).map (ptF scF):=by rw[Zg0 h.dkr]
def DkR.bytes(h:DkR y Y)(k:∀p∈Y.map (ptF scF),p.n=(segL p.d).length):∀f∈Y,ScOK (scF f)/\byF f=segL (scF f)/\(scF f).num=numS f.nm/\numS f.nm≠0:=by
 intro f a;have e:numS f.nm≠0:=Zb9 f (by rw[h.eq];exact a)
 have g:∀(y:List FiD) (p:Option Sc),inRow scF p y->∀f∈y,(scF f).num=numS f.nm:=by
  intro y
  induction y with
  |nil=>intro p _ f a;cases a
  |cons x y m=>
   intro p c f a
   rcases List.mem_cons.1 a with rfl|a
   .exact c.1
   .exact m _ c.2.2 f a
 have i:=g Y none h.inr f a;have j:(scF f).num≠0:=(by rw[i];exact e);exact⟨(Zk7 j).1,scF_all j (k (ptF scF f) (Ya.2 ⟨f,a,rfl⟩)),i,e⟩
def Zp7{l b:List FiD}{g f:FiD}{a:Sc}(h:DkR l (b++[g]))(o:g.nm=f.nm)(i:numS f.nm≠0)(c:ScOK a)(j:byF f=segL a)(q:a.num=(scF g).num)(r:a.bs=(scF g).bs)(t:a.ba=(scF g).ba)(u:keptF l<=a.s):
  DkR (withB FiD.nm l f) (b++[f])/\rowK (withB FiD.nm l f)=(b.map (ptF scF)++[⟨a,f.len⟩],[]):=by
 have m:inRow scF none (segs l):=(by rw[h.eq];exact h.inr);obtain⟨w,x,k⟩:=row_last h.srt m h.eq o c j q r t;have d:scF f=a:=Zbw c j
 have n:DkR (withB FiD.nm l f) (b++[f]):=⟨Zbo h.srt,k,by rw[<-k];exact w,λp v=>by
  have e:p=ptF scF f:=(by simpa using v.symm);subst e;rw[Zdk i];show keptF l<=(scF f).s
  rw[d];exact u⟩
 refine⟨n,?_⟩;rw[Zg0 n,List.map_append];simp[ptF,d]
def rowK_new{f:FiD}{d':Sc}(h:DkR y Y)(hno:∀g∈y,g.nm≠f.nm)(b:numS f.nm≠0)(i:∀g∈Y,numS g.nm<numS f.nm)(c:ScOK d')(m:byF f=segL d')(q:d'.num=numS f.nm)(j:∀g,Y.getLast?=some g->foll d' (scF g))(r:keptF y<=d'.s):
  DkR (withB FiD.nm y f) (Y++[f])/\rowK (withB FiD.nm y f)=(Y.map (ptF scF)++[⟨d',f.len⟩],[]):=by
 have n:inRow scF none (segs y):=(by rw[h.eq];exact h.inr);obtain⟨u,v,k⟩:=row_new h.srt n hno b (by rw[h.eq];exact i) c m q (by rw[h.eq];exact j);rw[h.eq]at k;have d:scF f=d':=Zbw c m
 have o:DkR (withB FiD.nm y f) (Y++[f]):=⟨Zbo h.srt,k,by rw[<-k];exact u,λp t=>by
  have e:p=ptF scF f:=(by simpa using t.symm);subst e;rw[Zdk b];show keptF y<=(scF f).s
  rw[d];exact r⟩
 refine⟨o,?_⟩;rw[Zg0 o,List.map_append];simp[ptF,d]
structure Par(j:JoD)(gs:List FiD):Prop where
 dkr:DkR j.dk.fs gs
 good:GoodR (gs.map (ptF scF)) (keptF j.dk.fs) (baseF j.dk.fs)
 all:∀p∈gs.map (ptF scF),p.n=(segL p.d).length
 st:j.st=stR (gs.map (ptF scF)) (keptF j.dk.fs) (baseF j.dk.fs)
 sg:j.sg=(gs.map (ptF scF)).map sgOf
 cx:j.cx=Zbg (gs.map (ptF scF))
 kept:j.kept=keptF j.dk.fs
def RightJ.par{j:JoD}(h:RightJ j):Par j (segs j.dk.fs):=by
 have d:=h.row;have e:=h.good;have f:=h.all;have a:=h.eq;rw[d]at e f;have e1:j.st=(anewJ j.dk j.cb j.cg j.sure j.shut).st:=congrArg JoD.st a;have e2:j.sg=(anewJ j.dk j.cb j.cg j.sure j.shut).sg:=congrArg JoD.sg a;have b:j.cx=(anewJ j.dk j.cb j.cg j.sure j.shut).cx:=congrArg JoD.cx a;have c:j.kept=(anewJ j.dk j.cb j.cg j.sure j.shut).kept:=congrArg JoD.kept a;unfold anewJ at e1 e2 b c;simp only at e1 e2 b c;rw[d]at e1 e2 b;exact⟨h.dkr,e,f,e1,e2,b,c⟩
def Par.q{j:JoD}{a:List FiD}{g:FiD}(h:Par j (a++[g])):j.st.q=(scF g).s:=by rw[h.st];exact stR_q h.dkr h.good
def Par.q0{j:JoD}(h:Par j []):j.st.q=j.kept:=by
 rw[h.st,h.kept];show(baseF j.dk.fs).q=_;exact Zqh _
def Par.kq{j:JoD}(h:Par j y):j.kept<=j.st.q:=by
 rcases Y4 y with rfl|⟨y,g,rfl⟩
 .rw[h.q0];exact Yd _
 .rw[List.concat_eq_append]at h;rw[h.q,h.kept];exact h.dkr.kept (ptF scF g) Vs
def anew_add{j:JoD}{i:List FiD}{g:FiD}(h:Par j (i++[g]))(A:(scF g).sl=false){e:Cod.EvD}(Y:e.s=j.st.q+1)(ok:EncOK (scF g).s (scF g).a (scF g).m e)(N:(appS j.st (toE e)).2=0){x:List UInt8}(hx:(x.map λb=>(b.toNat:Int))=recB (scF g) e){d:DiD}(o:d.fs=withB FiD.nm j.dk.fs ⟨g.nm,g.su,g.lo++x⟩)(t u k:Int)(l:Bool):
  anewJ d t u k l=⟨d,t,u,((i.map (ptF scF)).map sgOf)++[sgOf ⟨addS (scF g) e,g.len+x.length⟩],⟨e.s,e.a,bhdN (scF g).m e.c⟩,(appS j.st (toE e)).1,k,j.kept,l⟩/\
   Par (anewJ d t u k l) (i++[⟨g.nm,g.su,g.lo++x⟩]):=by
 have V:=h.dkr.bytes h.all g Vs;obtain⟨O,P,b3,y⟩:=V;have E:(scF g).num≠0:=(by rw[b3];exact y);obtain⟨G,Q⟩:=Zz0 O E A ok;have v:byF ⟨g.nm,g.su,g.lo++x⟩=segL (addS (scF g) e):=(by rw[byF_app,hx,Q,<-P]);have hq:=h.q;have Z:=h.kq;have W:keptF j.dk.fs<=(addS (scF g) e).s:=(by show _<=e.s;rw[<-h.kept];omega);obtain⟨R,H⟩:=Zp7 (f:=⟨g.nm,g.su,g.lo++x⟩) h.dkr rfl y G v rfl rfl rfl W;have n:(⟨g.nm,g.su,g.lo++x⟩:FiD).len=g.len+x.length:=(by unfold FiD.len;simp;omega);rw[n]at H;have J:=h.good;rw[List.map_append]at J;have hst:=h.st;rw[List.map_append]at hst
 obtain⟨T,U⟩:=goodR_add (p:=ptF scF g) (q:=⟨addS (scF g) e,g.len+x.length⟩) J rfl rfl rfl rfl (by show e.s=(scF g).s+1;omega) (by rw[<-h.kept];omega) (by
  have:stR (i.map (ptF scF)++[ptF scF g]) (keptF j.dk.fs) (baseF j.dk.fs)=j.st:=hst.symm
  rw[this];exact N)
 have C:keptF d.fs=keptF j.dk.fs:=(by rw[o];exact Zdk y);have D:baseF d.fs=baseF j.dk.fs:=(by rw[o];exact Zfr y);have z:rowK d.fs=(i.map (ptF scF)++[⟨addS (scF g) e,g.len+x.length⟩],[]):=(by rw[o];exact H);have F:stR (i.map (ptF scF)++[⟨addS (scF g) e,g.len+x.length⟩]) (keptF j.dk.fs) (baseF j.dk.fs)=(appS j.st (toE e)).1:=(by rw[U];have:stR (i.map (ptF scF)++[ptF scF g]) (keptF j.dk.fs) (baseF j.dk.fs)=j.st:=hst.symm;rw[this]);have K:Zbg (i.map (ptF scF)++[⟨addS (scF g) e,g.len+x.length⟩])=⟨e.s,e.a,bhdN (scF g).m e.c⟩:=(by unfold Zbg;rw[List.getLast?_concat];simp[addS,A]);have L:anewJ d t u k l=⟨d,t,u,((i.map (ptF scF)).map sgOf)++[sgOf ⟨addS (scF g) e,g.len+x.length⟩],⟨e.s,e.a,bhdN (scF g).m e.c⟩,(appS j.st (toE e)).1,k,j.kept,l⟩:=(by unfold anewJ;rw[z,C,D,F,K,List.map_append,h.kept];rfl);refine⟨L,?_⟩;have M:scF ⟨g.nm,g.su,g.lo++x⟩=addS (scF g) e:=Zbw G v;have w:(i++[(⟨g.nm,g.su,g.lo++x⟩:FiD)]).map (ptF scF)=i.map (ptF scF)++[⟨addS (scF g) e,g.len+x.length⟩]:=(by rw[List.map_append];simp only[List.map_cons,List.map_nil,ptF,M,n]);refine⟨?_,?_,?_,?_,?_,?_,?_⟩
 .show DkR d.fs _;rw[o];exact R
 .show GoodR _ (keptF d.fs) (baseF d.fs);rw[w,C,D];exact T
 .intro p r;rw[w]at r
  rcases List.mem_append.1 r with r|r
  .exact h.all p (by rw[List.map_append];exact List.mem_append.2 (.inl r))
  .have X:p=⟨addS (scF g) e,g.len+x.length⟩:=(by simpa using r);subst X;show g.len+x.length=_;rw[<-n,<-Zis,v]
 .show stR (rowK d.fs).1 _ _=stR _ (keptF d.fs) (baseF d.fs);rw[w,z]
 .show(rowK d.fs).1.map sgOf=_;rw[w,z]
 .show Zbg (rowK d.fs).1=_;rw[w,z]
 .rfl
def par_of{j:JoD}{S:StD}(o:∀p∈y.map (ptF scF),p.n=(segL p.d).length)(u:DkR d.fs (y++[f]))(s:scF f=D)(t:byF f=segL D)(k:rowK d.fs=(y.map (ptF scF)++[⟨D,f.len⟩],[]))
  (l:keptF d.fs=keptF j.dk.fs) (m:baseF d.fs=baseF j.dk.fs) (v:j.kept=keptF j.dk.fs) (w:GoodR (y.map (ptF scF)++[⟨D,f.len⟩]) (keptF j.dk.fs) (baseF j.dk.fs)) (hst:stR (y.map (ptF scF)++[⟨D,f.len⟩]) (keptF j.dk.fs) (baseF j.dk.fs)=S) (q r e:Int) (g:Bool):
  anewJ d q r e g=⟨d,q,r,((y.map (ptF scF)).map sgOf)++[sgOf ⟨D,f.len⟩],Zbg (y.map (ptF scF)++[⟨D,f.len⟩]),S,e,j.kept,g⟩/\Par (anewJ d q r e g) (y++[f]):=by
 have i:(y++[f]).map (ptF scF)=y.map (ptF scF)++[⟨D,f.len⟩]:=(by rw[List.map_append];simp only[List.map_cons,List.map_nil,ptF,s]);refine⟨?_,⟨u,?_,?_,?_,?_,?_,rfl⟩⟩
 .unfold anewJ;rw[k,l,m,hst,List.map_append,v];rfl
 .show GoodR _ (keptF d.fs) (baseF d.fs);rw[i,l,m];exact w
 .intro p h;rw[i]at h
  rcases List.mem_append.1 h with h|h
  .exact o p h
  .have x:p=⟨D,f.len⟩:=(by simpa using h);subst x;show f.len=_;rw[<-Zis,t]
 .show stR (rowK d.fs).1 _ _=stR _ (keptF d.fs) (baseF d.fs);rw[i,k]
 .show(rowK d.fs).1.map sgOf=_;rw[i,k]
 .show Zbg (rowK d.fs).1=_;rw[i,k]
def Zzl{j:JoD}{g f:FiD}(h:Par j (y++[g]))(r:(scF g).sl=false)(t:g.nm=f.nm)(A:byF f=byF g++seaB (scF g))(a:d.fs=withB FiD.nm j.dk.fs f)(m n b:Int)(c:Bool):
  anewJ d m n b c=⟨d,m,n,((y.map (ptF scF)).map sgOf)++[sgOf ⟨sealS (scF g),f.len⟩],⟨0,0,[]⟩,j.st,b,j.kept,c⟩/\Par (anewJ d m n b c) (y++[f]):=by
 obtain⟨D,E,b3,u⟩:=h.dkr.bytes h.all g Vs;have o:(scF g).num≠0:=by rw[b3];exact u
 obtain⟨v,F⟩:=Zt4 D o r;have i:byF f=segL (sealS (scF g)):=(by rw[A,F,<-E]);have k:numS f.nm≠0:=by rw[<-t];exact u
 have L:keptF j.dk.fs<=(sealS (scF g)).s:=h.dkr.kept (ptF scF g) Vs;obtain⟨G,H⟩:=Zp7 (f:=f) h.dkr t k v i rfl rfl rfl L;have w:=h.good;rw[List.map_append]at w;have hst:=h.st;rw[List.map_append]at hst;obtain⟨J,K⟩:=Zzd (p:=ptF scF g) (q:=⟨sealS (scF g),f.len⟩) w rfl rfl rfl rfl;have x:keptF d.fs=keptF j.dk.fs:=(by rw[a];exact Zdk k);have l:baseF d.fs=baseF j.dk.fs:=(by rw[a];exact Zfr k);have e:=par_of (j:=j) (S:=j.st) (λp C=>h.all p (by rw[List.map_append];exact List.mem_append.2 (.inl C))) (by rw[a];exact G) (Zbw v i) i (by rw[a];exact H) x l h.kept J (K.trans hst.symm) m n b c;have z:Zbg (y.map (ptF scF)++[⟨sealS (scF g),f.len⟩])=⟨0,0,[]⟩:=(by unfold Zbg;rw[List.getLast?_concat];simp[sealS]);rw[z]at e;exact e
def anew_new{j:JoD}{b:List FiD}{f:FiD}{n:Int}{e:Cod.EvD}(h:Par j b)(A:∀g,b.getLast?=some g->(scF g).sl=true/\n=(scF g).num+1)(C:inN n)(a0:b=[]->n=1)(D:f.nm=segNm n)(hno:∀g∈j.dk.fs,g.nm≠f.nm)(y:∀g∈b,numS g.nm<n)
  (E:e.s=j.st.q+1) (F:headOK n j.st.q j.st.t) (ok:EncOK j.st.q j.st.t [] e) (N:(appS j.st (toE e)).2=0) (O:byF f=fr 1 (hdP n j.st.q j.st.t)++fr 2 (encL j.st.q j.st.t [] e)) {d:DiD} (l:d.fs=withB FiD.nm j.dk.fs f) (r u i:Int) (k:Bool):
  anewJ d r u i k=⟨d,r,u,((b.map (ptF scF)).map sgOf)++[sgOf ⟨newS n j.st.q j.st.t e,f.len⟩],⟨e.s,e.a,bhdN [] e.c⟩,(appS j.st (toE e)).1,i,j.kept,k⟩/\Par (anewJ d r u i k) (b++[f]):=by
 obtain⟨G,P⟩:=Zz1 F ok;have m:byF f=segL (newS n j.st.q j.st.t e):=(by rw[O,P]);have o:numS f.nm=n:=by rw[D];exact Zuk C
 have p:numS f.nm≠0:=(by rw[o];have:=C.1;omega);have a3:=h.kq;have Z:(newS n j.st.q j.st.t e).s=e.s:=rfl;have hk:keptF j.dk.fs<=(newS n j.st.q j.st.t e).s:=(by rw[Z,<-h.kept];omega);have w:∀g,b.getLast?=some g->(scF g).s=j.st.q/\(scF g).a=j.st.t:=by intro g v;obtain⟨x,rfl⟩:∃x,b=x++[g]:=List.getLast?_eq_some_iff.1 v;refine⟨h.q.symm,?_⟩;have:=h.good.at_ (ptF scF g) Vs;rw[<-h.st]at this;exact this
 obtain⟨Q,R⟩:=rowK_new (f:=f) (d':=newS n j.st.q j.st.t e) h.dkr hno p (by rw[o];exact y) G m (by rw[o];rfl) (λg v=>by
  obtain⟨T,U⟩:=w g v;obtain⟨V,W⟩:=A g v
  exact⟨V,W,T.symm,U.symm⟩) hk
 have hst:=h.st
 obtain⟨X,Y⟩:=goodR_new (q:=⟨newS n j.st.q j.st.t e,f.len⟩) (e:=e) h.good rfl rfl rfl (by show e.s=j.st.q+1;exact E) (by rw[<-h.kept];omega) (λz=>by
  have H:b=[]:=(by simpa using z);subst H;show j.st.q<=_
  rw[h.q0,h.kept];exact Yd _) (by rw[<-hst];exact N)
 have J:keptF d.fs=keptF j.dk.fs:=(by rw[l];exact Zdk p);have K:baseF d.fs=baseF j.dk.fs:=(by rw[l];exact Zfr p);have L:=par_of (j:=j) (S:=(appS j.st (toE e)).1) h.all (by rw[l];exact Q) (Zbw G m) m (by rw[l];exact R) J K h.kept X (by rw[Y,<-hst]) r u i k;have M:Zbg (b.map (ptF scF)++[⟨newS n j.st.q j.st.t e,f.len⟩])=⟨e.s,e.a,bhdN [] e.c⟩:=(by unfold Zbg;rw[List.getLast?_concat];rfl);rw[M]at L;exact L
def Zqk{f:FiD}(b:srt FiD.nm d.fs)(a:f∈d.fs):d.get f.nm=some f:=by
 unfold DiD.get
 cases h:d.fs.find? (λg=>decide (g.nm=f.nm))with
 |none=>have:=List.find?_eq_none.1 h f a;simp at this
 |some g=>have c:=Wl h;have e:=WK h;rw[Zo5 b e a (by simpa using c)]
def get_none(h:d.get s=none):∀g∈d.fs,g.nm≠s:=by
 intro g a e;have:=List.find?_eq_none.1 h g a;simp[e]at this
def Zdm{d a:DiD}{x:List UInt8}(h:Zau d s x=(a,0)):d.er s s=0/\∃f,d.get s=some f/\a.fs=withB FiD.nm d.fs ⟨s,f.su,f.lo++x⟩/\a.rm=d.rm/\a.dn=d.dn:=by
 unfold Zau at h
 split at h
 next g=>simp only[Prod.mk.injEq]at h;exact absurd h.2 g
 .rename_i g;refine⟨by simpa using g,?_⟩
  split at h
  .simp at h
  next f b=>
   split at h
   .simp at h
   .split at h
    .simp at h
    .simp only[Prod.mk.injEq]at h;refine⟨f,b,?_⟩;rw[<-h.1];exact⟨rfl,rfl,rfl⟩
def Zoh{d a:DiD}(h:d.perf y=(a,0)):a.fs=y/\a.rm=d.rm/\a.dn=d.dn:=by
 unfold DiD.perf at h
 split at h
 .simp at h
 .simp only[Prod.mk.injEq]at h;rw[<-h.1];exact⟨rfl,rfl,rfl⟩
def Zld{d a:DiD}(h:Zc3 d s=(a,0)):d.er s s=0/\∃f,d.get s=some f/\a.fs=withB FiD.nm d.fs ⟨s,f.su++f.lo,[]⟩/\a.rm=d.rm/\a.dn=d.dn:=by
 unfold Zc3 at h
 split at h
 next g=>simp only[Prod.mk.injEq]at h;exact absurd h.2 g
 .rename_i g;refine⟨by simpa using g,?_⟩
  split at h
  .simp at h
  next f b=>exact⟨f,b,Zoh h⟩
def Zle{d a:DiD}(h:Zbe d s=(a,0)):d.er s s=0/\d.get s=none/\a.fs=withB FiD.nm d.fs ⟨s,[],[]⟩/\a.rm=d.rm/\a.dn=d.dn:=by
 unfold Zbe at h
 split at h
 next g=>simp only[Prod.mk.injEq]at h;exact absurd h.2 g
 .rename_i g;refine⟨by simpa using g,?_⟩
  split at h
  .simp at h
  next b=>
   split at h
   .simp at h
   .exact⟨b,Zoh h⟩
def Zoi{d a:DiD}{f:FiD}(b:srt FiD.nm d.fs)(e:a.fs=withB FiD.nm d.fs f):a.get f.nm=some f:=get_withB b e
def app_app{d b c:DiD}{x y:List UInt8}(e:srt FiD.nm d.fs)(h:Zau d s x=(b,0))(i:Zau b s y=(c,0)):∃f,d.get s=some f/\c.fs=withB FiD.nm d.fs ⟨s,f.su,f.lo++(x++y)⟩:=by
 obtain⟨_,f,j,e1,_⟩:=Zdm h;obtain⟨_,l,a,e2,_⟩:=Zdm i;have k:=Zoi (f:=⟨s,f.su,f.lo++x⟩) e e1;rw[k]at a
 cases a
 refine⟨f,j,?_⟩;rw[e2,e1,Zg8 (nm:=FiD.nm) (f:=⟨s,f.su,f.lo++x⟩) (g:=⟨s,f.su,f.lo++x++y⟩) rfl,List.append_assoc]
def app_sync{d b c:DiD}{x:List UInt8}(e:srt FiD.nm d.fs)(h:Zau d s x=(b,0))(i:Zc3 b s=(c,0)):∃f,d.get s=some f/\c.fs=withB FiD.nm d.fs ⟨s,f.su++(f.lo++x),[]⟩:=by
 obtain⟨_,f,j,e1,_⟩:=Zdm h;obtain⟨_,l,a,e2,_⟩:=Zld i;have k:=Zoi (f:=⟨s,f.su,f.lo++x⟩) e e1;rw[k]at a
 cases a
 refine⟨f,j,?_⟩;rw[e2,e1,Zg8 (nm:=FiD.nm) (f:=⟨s,f.su,f.lo++x⟩) (g:=⟨s,f.su++(f.lo++x),[]⟩) rfl]
def new_app{d a c e:DiD}{x y:List UInt8}(h:srt FiD.nm d.fs)(k:Zbe d s=(a,0))(l:Zau a s x=(c,0))(m:Zau c s y=(e,0)):(∀g∈d.fs,g.nm≠s)/\e.fs=withB FiD.nm d.fs ⟨s,[],x++y⟩:=by
 obtain⟨_,n,b,_⟩:=Zle k;have j:srt FiD.nm a.fs:=by rw[b];exact Zbo h
 obtain⟨f,i,e2⟩:=app_app j l m;have o:=Zoi (f:=⟨s,[],[]⟩) h b;rw[o]at i
 cases i
 refine⟨get_none n,?_⟩;rw[e2,b,Zg8 (nm:=FiD.nm) (f:=⟨s,[],[]⟩) (g:=⟨s,[],[]++(x++y)⟩) rfl,Y5]
def appS_may{e:Cmp.EvD}(h:(appS g e).2=0):MayS g e:=by
 refine Zhu ?_;unfold appS at h
 split at h
 next d=>exact absurd h d
 next d=>simpa using d
def Zqj(h:g.P):ctxOK g.q g.t:=by
 obtain⟨⟨_,a,b,c,e⟩,_⟩:=h;exact⟨a,b,c,e⟩
def ctx_nil(h:ctxOK i j):ctxB i j []=true:=by
 unfold ctxB rgtB;obtain⟨b,c,d,e⟩:=h;simp[b,c,d,e]
def Par.name{j:JoD}(h:Par j y):∀f∈y,f.nm=segNm (scF f).num/\inN (scF f).num:=by
 intro f b;obtain⟨g,i,b3,c⟩:=h.dkr.bytes h.all f b;obtain⟨d,e⟩:=Zc0 c;rw[b3];exact⟨e,d⟩
def Par.big{j:JoD}{c:List FiD}{g:FiD}(h:Par j (c++[g])):∀f∈c++[g],numS f.nm<(scF g).num+1:=by
 have o:srt FiD.nm (c++[g]):=(by rw[<-h.dkr.eq];exact YL _ h.dkr.srt);obtain⟨_,_,c3,k⟩:=h.dkr.bytes h.all g Vs;intro f a;obtain⟨_,_,b3,l⟩:=h.dkr.bytes h.all f a
 rcases List.mem_append.1 a with a|a
 .have b:=(List.pairwise_append.1 o).2.2 f a g Vs;obtain⟨m,d⟩:=Zc0 l;obtain⟨n,e⟩:=Zc0 k;rw[c3]
  rcases Wq (numS f.nm) (numS g.nm)with q|q
  .omega
  .exfalso;have i:numS g.nm<numS f.nm\/numS g.nm=numS f.nm:=Vo
   rcases i with q2|q2
   .have:=Zul n m q2;rw[<-e,<-d]at this;exact Zlo _ (Y06 b this)
   .rw[d,e,q2]at b;exact Zlo _ b
 .have:f=g:=(by simpa using a);subst this;rw[c3];omega
def Zqn(a:FiD->Sc):∀(l:List FiD) (r:List Pt) (o:List BA),(∀f∈l,numS f.nm≠0)->o≠[]->l.foldl (rstep a) (r,o)=(r,o++l.map FiD.nm)
 | [],r,o,_,_=>Vs
 |f::l,r,o,hn,ho=>by rw[List.foldl_cons,show rstep a (r,o) f=(r,o++[f.nm])from by unfold rstep;rw[if_neg (hn f Vs),if_neg (λq=>ho q.1)]];rw[Zqn a l r _ (λg b=>hn g (by simp[b])) Vs];simp
def Zm1(b:FiD->Sc):∀(l:List FiD) (r:List Pt),(∀f∈l,numS f.nm≠0)->∃n,l.foldl (rstep b) (r,[])=(r++(l.take n).map (ptF b),(l.drop n).map FiD.nm)/\inRow b (r.getLast?.map (·.d)) (l.take n)
 | [],r,_=>⟨0,Vs,trivial⟩
 |f::l,r,hn=>by
  rw[List.foldl_cons];by_cases hm:mayR b r [] f
  .rw[show rstep b (r,[]) f=(r++[ptF b f],[])from by unfold rstep;rw[if_neg (hn f Vs),if_pos hm]];obtain⟨n,h,i⟩:=Zm1 b l (r++[ptF b f]) λg c=>hn g (by simp[c]);refine⟨n+1,by rw[h];simp,?_⟩;rw[List.take_succ_cons];obtain⟨_,j,e⟩:=hm;refine⟨j,?_,by simpa using i⟩
   cases c:r.getLast? with
   |none=>trivial
   |some a=>rw[c]at e;exact e
  .rw[show rstep b (r,[]) f=(r,[]++[f.nm])from by unfold rstep;rw[if_neg (hn f Vs),if_neg hm]];refine⟨0,?_,trivial⟩;rw[Zqn b l r _ (λg c=>hn g (by simp[c])) Vs];simp
def Zso(l:List FiD):∃n,rowsD scF l=(((segs l).take n).map (ptF scF),((segs l).drop n).map FiD.nm)/\inRow scF none ((segs l).take n):=by
 unfold rowsD;rw[Zdj];obtain⟨n,a,b⟩:=Zm1 scF (segs l) [] Zb9;exact⟨n,by simpa using a,b⟩
def Zdo{a:FiD->Sc}:∀{l:List FiD} {p:Option Sc},inRow a p l->∀f∈l,(a f).num=numS f.nm
 | [],_,_,f,hf=>by cases hf
 |g::l,p,h,f,hf=>by
  rcases List.mem_cons.1 hf with rfl|hf
  .exact h.1
  .exact Zdo h.2.2 f hf
theorem Zoo(h:numS f.nm≠0):segNm (numS f.nm)=f.nm:=(Zc0 h).2.symm
def Zm2(l:List FiD):∃n,rowK l=(((segs l).take n).map (ptF scF),((segs l).drop n).map FiD.nm)/\inRow scF none ((segs l).take n)/\∀p,(((segs l).take n).map (ptF scF)).getLast?=some p->keptF l<=p.d.s:=by
 obtain⟨n,h,b⟩:=Zso l;unfold rowK;rw[h]
 cases hg:(((segs l).take n).map (ptF scF)).getLast? with
 |none=>exact⟨n,rfl,b,λp c=>by rw[hg]at c;cases c⟩
 |some p=>
  simp only;by_cases hk:p.d.s<keptF l
  .rw[if_pos hk];refine⟨0,?_,trivial,λq a=>by simp at a⟩;have e:(((segs l).take n).map (ptF scF)).map (λp=>segNm p.d.num)=((segs l).take n).map FiD.nm:=(by rw[List.map_map];apply List.map_congr_left;intro f g;show segNm (scF f).num=f.nm;rw[Zdo b f g];exact Zoo (Zb9 f (List.mem_of_mem_take g)));rw[e,<-List.map_append,List.take_append_drop];simp
  .rw[if_neg hk];exact⟨n,rfl,b,λq a=>by rw[hg]at a;cases a;omega⟩
def segs_wout:segs (wout FiD.nm y s)=wout FiD.nm (segs y) s:=by
 unfold segs wout;rw[List.filter_filter,List.filter_filter];apply List.filter_congr;intro x _;exact Bool.and_comm _ _
def cand_wout{l:List FiD}(h:numS s≠0)(t:StD):Cand (wout FiD.nm l s) t↔Cand l t:=by
 constructor
 .rintro⟨g,a,q⟩;exact⟨g,(Zgd.1 a).1,q⟩
 .rintro⟨g,a,q⟩;exact⟨g,Zgd.2 ⟨a,λe=>Zf3 h _ (e.symm.trans q.2.1)⟩,q⟩
def Zm3{l:List FiD}(h:numS s≠0):keptF (wout FiD.nm l s)=keptF l/\baseF (wout FiD.nm l s)=baseF l:=by
 have e:=Znm λt=>cand_wout (l:=l) h t;unfold keptF baseF;rw[e];exact⟨rfl,rfl⟩
def wout_last{l:List FiD}{f:FiD}(a:srt FiD.nm (l++[f])):wout FiD.nm (l++[f]) f.nm=l:=by
 unfold wout;rw[List.filter_append]
 have b:(l.filter λg=>decide (g.nm≠f.nm))=l:=by
  apply List.filter_eq_self.2;intro x hx;have:=Zjk ((List.pairwise_append.1 a).2.2 x hx f Vs)
  simpa using this
 rw[b];simp
def Zqf{h:FiD->FiD}:∀{l:List FiD} {p:Option Sc},(∀f∈l,(h f).nm=f.nm/\scF (h f)=scF f)->inRow scF p l->inRow scF p (l.map h)
 | [],_,_,_=>trivial
 |f::l,p,hh,hi=>by obtain⟨c,a⟩:=hh f Vs;obtain⟨d,i2,i3⟩:=hi;refine⟨by rw[c,a];exact d,by rw[a];exact i2,?_⟩;rw[a];exact Zqf (λg b=>hh g (by simp[b])) i3
noncomputable def ptW(f:FiD):Pt:=⟨scF f,(segL (scF f)).length⟩
theorem Zk3{h:FiD->FiD}(u:srt FiD.nm Y)(m:segs Y=((segs y).take n).map h)(i:inRow scF none ((segs y).take n))(j:∀p,(((segs y).take n).map (ptF scF)).getLast?=some p->keptF y<=p.d.s)
  (o:∀f∈(segs y).take n,(h f).nm=f.nm/\byF (h f)=segL (scF f)) (v:keptF Y=keptF y):DkR Y (segs Y)/\rowK Y=(((segs y).take n).map ptW,[]):=by
 have q:∀f∈(segs y).take n,ScOK (scF f):=λf a=>by have w:=Zdo i f a;exact(Zk7 (by rw[w];exact Zb9 f (List.mem_of_mem_take a))).1
 have k:∀f∈(segs y).take n,(h f).nm=f.nm/\scF (h f)=scF f:=λf a=>⟨(o f a).1,Zbw (q f a) (o f a).2⟩
 have r:(((segs y).take n).map h).map (ptF scF)=((segs y).take n).map ptW:=by
  rw[List.map_map];apply List.map_congr_left;intro f a
  show(⟨scF (h f),(h f).len⟩:Pt)=⟨scF f,(segL (scF f)).length⟩
  rw[(k f a).2,<-Zis,(o f a).2]
 have t:DkR Y (segs Y):=by
  refine⟨u,rfl,by rw[m];exact Zqf k i,λp c=>?_⟩;rw[m,r]at c;rw[v]
  rcases Y4 ((segs y).take n)with e|⟨gs,g,e⟩
  .rw[e]at c;simp at c
  .rw[List.concat_eq_append]at e;rw[e]at c j;have e1:p=ptW g:=(by simpa using c.symm);subst e1;exact j (ptF scF g) Vs
 refine⟨t,?_⟩;rw[Zg0 t,m,r]
def Zuy(l:List FiD):evsR (l.map ptW)=evsR (l.map (ptF scF)):=by
 unfold evsR;rw[List.flatMap_map,List.flatMap_map];rfl
theorem stR_ptW(l:List FiD)(k:Int)(s:StD):stR (l.map ptW) k s=stR (l.map (ptF scF)) k s:=by unfold stR;rw[Zuy]
theorem goodR_ptW{l:List FiD}{k:Int}{s:StD}(h:GoodR (l.map (ptF scF)) k s):GoodR (l.map ptW) k s:=by
 refine⟨λp a=>?_,λp a=>?_,by rw[Zuy];exact h.app,λp a=>?_⟩
 .cases l with
  |nil=>simp at a
  |cons f l=>have e:p=ptW f:=(by simpa using a.symm);subst e;exact h.bs (ptF scF f) Vs
 .obtain⟨f,b,rfl⟩:=Ya.1 a;exact h.cnt (ptF scF f) (Ya.2 ⟨f,b,rfl⟩)
 .rw[stR_ptW]
  rcases Y4 l with rfl|⟨gs,g,rfl⟩
  .simp at a
  .rw[List.concat_eq_append]at a h|-;have e:p=ptW g:=(by simpa using a.symm);subst e;exact h.at_ (ptF scF g) Vs
def byF_cut:byF ⟨f.nm,f.su.take n,f.lo.take (n-f.su.length)⟩=(byF f).take n:=by
 unfold byF;rw[<-List.map_take,List.take_append]
def Zr9(h:(scF f).num≠0):byF ⟨f.nm,f.su.take (segL (scF f)).length,f.lo.take ((segL (scF f)).length-f.su.length)⟩=segL (scF f):=by
 rw[byF_cut];exact WT.1 (Zk7 h).2|>.symm
theorem byF_sync(s:BA)(f:FiD):byF ⟨s,f.su++f.lo,[]⟩=byF f:=by unfold byF;simp
def Zk4{d a:DiD}(h:Zbk d s=(a,0)):d.er s s=0/\(∃f,d.get s=some f)/\a.fs=wout FiD.nm d.fs s/\a.rm=d.rm/\a.dn=d.dn:=by
 unfold Zbk at h
 split at h
 next g=>simp only[Prod.mk.injEq]at h;exact absurd h.2 g
 .rename_i g;refine⟨by simpa using g,?_⟩
  split at h
  .simp at h
  next f b=>exact⟨⟨f,b⟩,Zoh h⟩
def Zuz{d a:DiD}(h:opCut d s i=(a,0)):d.er s s=0/\∃f,d.get s=some f/\0<=i/\i<=f.len/\a.fs=withB FiD.nm d.fs ⟨s,f.su.take i.toNat,f.lo.take (i.toNat-f.su.length)⟩/\a.rm=d.rm/\a.dn=d.dn:=by
 unfold opCut at h
 split at h
 next g=>simp only[Prod.mk.injEq]at h;exact absurd h.2 g
 .rename_i g;refine⟨by simpa using g,?_⟩
  split at h
  .simp at h
  next f b=>
   split at h
   .simp at h
   next c=>have:=Zoh h;exact⟨f,b,Vo,Vo,this⟩
