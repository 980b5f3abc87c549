import Derived.Test.YtgehiiginclniaaGreatDoorK11
set_option linter.all false
set_option maxRecDepth 100000
variable{b c i j k:Int}{m n:Nat}{l:Go.Px.LL}{Q:Go.Px.QQ}{s t:BA}{Y y:List Go.Px.FiD}{d:Go.Px.DiD}{o:Bool}{f:Go.Px.FiD}{g:Go.Proofs.YtgehiiginclniaaGreatDoor.Sx.StD}{D:Go.Proofs.YtgehiiginclniaaGreatDoor.Seg.Sc}
namespace Go.Proofs.YtgehiiginclniaaGreatDoor
namespace Dsk
open Go Go.Px Go.Proofs Ins Tryz
def cnan_fn(s:BA):Ct prog 190 {} [S s] (λr=>r=[B false]):=by
 refine cnan_nf ?_;simp
def Zs7(s t:BA):Ct prog 134 {} [S s,S t] (λr=>r=[I (if nlt s t then-1 else if nlt t s then 1 else 0)]):=by
 refine Zss (Cl.of (cnan_fn s) ⟨_,rfl,Cl.of (cnan_fn t) ⟨_,rfl,?_⟩⟩);show ifB (slt s t) _ _;rw[slt_d,sgt_d];exact ifB_d (λh=>by rw[if_pos h]) (λh=>ifB_d (λk=>by rw[if_neg h,if_pos k]) (λk=>by rw[if_neg h,if_neg k]))
def Zvp(f:FiD)(s:BA):Ct prog 310 {} [.agg f.row,S s] (λr=>r=[I (if nlt f.nm s then-1 else if nlt s f.nm then 1 else 0)]):=
 dins1_nf (Cl.of (Zs7 _ _) ⟨_,rfl,rfl⟩)
def half(h:n+m<=9223372036854775807):wcv .i64 (wshr .u64 (wcv .u64 (wadd .i64 (n:Int) (m:Int))) 1)=(((n+m)/2:Nat):Int):=by
 rw[Zlb _ _ h];have e1:wcv .u64 ((n+m:Nat):Int)=((n+m:Nat):Int):=(by simp only[wcv,IntKind.wrap,IntKind.signed,IntKind.bits];simp;omega);rw[e1];have e2:wshr .u64 ((n+m:Nat):Int) 1=(((n+m)/2:Nat):Int):=(by simp only[wshr,IntKind.bits];simp;rw[Int.fdiv_eq_ediv_of_nonneg _ Vo]);rw[e2];unfold wcv;exact Zbg Vo Vo
def Zye(l:List FiD)(g:srt FiD.nm l)(m:l.length<=1000000)(s:BA):Ct prog 309 {} [SL 3 (fR l),S s,.clo 310 []] (λr=>∃b:Bool,r=[I ((ahd FiD.nm l s).length:Nat),B b]):=by
 refine Zx6 ⟨λx y=>∃i j:Nat,x=i/\y=j/\i<=(ahd FiD.nm l s).length/\(ahd FiD.nm l s).length<=j/\j<=l.length,λx y=>y.toNat-x.toNat,⟨0,l.length,rfl,Vs,Vo,Zpw,Vo⟩,?_⟩;rintro _ _ ⟨i,j,rfl,rfl,h1,h2,h3⟩;refine Zaa (λh=>?_) (λh=>?_)
 .simp at h;rw[half Vo];have f:(i+j)/2<l.length:=Vo;refine⟨Vo,⟨Vo,Vm⟩,_,_,_,Zaj _ _ _ f,Cl.of (Zvp _ s) ⟨_,rfl,Zaa (λa=>⟨rfl,?_,?_⟩) (λa=>⟨rfl,⟨i,(i+j)/2,rfl,rfl,h1,?_,Vo⟩,stepL Vm⟩)⟩⟩
  .rw[waddN _];refine⟨(i+j)/2+1,j,rfl,rfl,?_,h2,h3⟩
   have:nlt l[(i+j)/2].nm s:=by
    refine W7 λc=>?_;rw[if_neg c]at a
    split at a<;>simp at a
   have:=(Zpv (s:=s) g f).2 this;omega
  .rw[waddN _];exact stepL Vm
  .have c:¬nlt l[(i+j)/2].nm s:=λc=>by rw[if_pos c]at a;simp at a
   have:¬((i+j)/2<(ahd FiD.nm l s).length):=λk=>c ((Zpv (s:=s) g f).1 k);omega
 .simp at h;have e:i=(ahd FiD.nm l s).length:=Vo;refine Zaa (λa=>?_) (λa=>⟨_,by rw[<-e]⟩);have a:i<l.length:=(by simpa using a);exact⟨⟨Vo,by simpa using a⟩,_,_,_,Zaj _ _ _ a,Cl.of (Zvp _ s) ⟨_,rfl,_,by rw[<-e]⟩⟩
def Znq(l:List FiD)(c:srt FiD.nm l)(a:l.length<=1000000)(f:FiD):Ct prog 245 OO [SL 3 (fR l),.agg f.row] (λr=>r=[SL 3 (fR (insB FiD.nm l f))]):=by
 refine Zx5 (Cl.ofQ (Zye l c a f.nm) ?_);rintro _ ⟨b,rfl⟩;refine⟨_,_,rfl,Cl.of (Zyr (fR l) (ahd FiD.nm l f.nm).length f.row (by simpa using Zpw) (by simpa using a) ovl_file) ⟨_,rfl,?_⟩⟩;rw[insB_at];simp[List.map_take,List.map_drop]
def dren11_fn(f:FiD)(a b:BA):Ct prog 249 {} [.agg f.row,.ref 0 [S a],.ref 0 [S b]] (λr=>r=[B (decide (f.nm=a\/f.nm=b))]):=by
 refine dren11_nf ?_;rw[seq_d,seq_d];by_cases h1:f.nm=a<;>by_cases h2:f.nm=b<;>simp[h1,h2]
section
variable{d:DiD}(hp:d.P)
include hp
def flen(a:n<d.fs.length):d.fs[n].len<=65536:=by
 have:=Ze6 (List.getElem_mem a);have:=hp.2.1;have:=hp.1.2.2.1;omega
def set_eq(a:n<d.fs.length)(f:FiD)(e:f.nm=d.fs[n].nm):rset (fR d.fs) (n:Nat) f.row=fR (withB FiD.nm d.fs f):=by
 rw[Zux,Zis hp.2.2.2 a e]
def dapp1_fn(a:n<d.fs.length)(x:List UInt8)(e:x.length<=65536):
  Ct prog 246 OO [SL 3 (fR d.fs),.ref 0 [I (n:Nat)],.ref 0 [S d.fs[n].nm],.ref 0 [SL 1 (uR x)]] (λr=>r=[SL 3 (fR (withB FiD.nm d.fs ⟨d.fs[n].nm,d.fs[n].su,d.fs[n].lo++x⟩))]):=by
 have b:(0:Int)<=(n:Nat)/\((n:Nat):Int)<rlen (fR d.fs):=⟨Vo,by simpa using a⟩
 have c:=flen hp a;refine dapp1_nf ⟨b,b,_,_,_,Zaj _ _ _ a,Cl.of (concat3 _ _ x (by unfold FiD.len at c;omega)) ⟨_,rfl,?_⟩⟩;rw[List.append_assoc,rlen_eq,Zj1];refine Cl.of (Zl2 _ _ _) ⟨_,_,_,rfl,b,b,?_⟩;exact congrArg (λz=>[SL 3 z]) (set_eq hp a _ rfl)
def dsyn1_fn(a:n<d.fs.length):
  Ct prog 221 OO [SL 3 (fR d.fs),.ref 0 [I (n:Nat)],.ref 0 [S d.fs[n].nm]] (λr=>r=[SL 3 (fR (withB FiD.nm d.fs ⟨d.fs[n].nm,d.fs[n].su++d.fs[n].lo,[]⟩))]):=by
 have b:(0:Int)<=(n:Nat)/\((n:Nat):Int)<rlen (fR d.fs):=⟨Vo,by simpa using a⟩
 have c:=flen hp a;refine dsyn1_nf ⟨b,b,_,_,_,Zaj _ _ _ a,Cl.of (Ztx _ _ (by unfold FiD.len at c;omega)) ⟨_,rfl,Cl.of (Zpp _ Vo) ⟨_,rfl,?_⟩⟩⟩;have:=Zyh d.fs[n].nm (d.fs[n].su++d.fs[n].lo);rw[show(d.fs[n].su++d.fs[n].lo).length=d.fs[n].len by simp[FiD.len]]at this;refine Cl.of this ⟨_,_,_,rfl,b,b,?_⟩;exact congrArg (λz=>[SL 3 z]) (set_eq hp a _ rfl)
def drem1_fn(a:n<d.fs.length):Ct prog 176 OO [SL 3 (fR d.fs),.ref 0 [I (n:Nat)]] (λr=>r=[SL 3 (fR (wout FiD.nm d.fs d.fs[n].nm))]):=by
 have b:=hp.1.1;refine drem1_nf ?_;rw[waddN _];refine Cl.of (Zyc (fR d.fs) n (n+1) Vo Vm) ⟨_,rfl,?_⟩;rw[Zdr hp.2.2.2 a];simp[List.map_take,List.map_drop]
def dcre1_fn(s:BA)(a:∀f∈d.fs,f.nm≠s):Ct prog 244 OO [SL 3 (fR d.fs),.ref 0 [S s]] (λr=>r=[SL 3 (fR (withB FiD.nm d.fs ⟨s,[],[]⟩))]):=by
 have b:=hp.1.1;refine dcre1_nf (Cl.of (Znq d.fs hp.2.2.2 Vo ⟨s,[],[]⟩) ⟨_,rfl,?_⟩);rw[Ze8 a]
def dren1_fn(c:n<d.fs.length)(b:BA):
  Ct prog 247 OO [SL 3 (fR d.fs),.ref 0 [I (n:Nat)],.ref 0 [S d.fs[n].nm],.ref 0 [S b]] (λr=>r=[SL 3 (fR (withB FiD.nm (wout FiD.nm d.fs d.fs[n].nm) ⟨b,d.fs[n].su,d.fs[n].lo⟩))]):=by
 have a:(0:Int)<=(n:Nat)/\((n:Nat):Int)<rlen (fR d.fs):=⟨Vo,by simpa using c⟩
 have h:=hp.1.1;refine dren1_nf ⟨a,a,_,_,_,Zaj _ _ _ c,Cl.of (fdelf_fn (fR d.fs) 249 [.ref 0 [S d.fs[n].nm],.ref 0 [S b]] (λr=>decide (rnm r=d.fs[n].nm\/rnm r=b)) Vm (λr a=>?_)) ⟨_,rfl,?_⟩⟩
 .obtain⟨f,_,rfl⟩:=Y5.1 a;exact⟨Zq5 f,dren11_fn f _ _⟩
 .have e:(fR d.fs).filter (λr=>!decide (rnm r=d.fs[n].nm\/rnm r=b))=fR (wout FiD.nm (wout FiD.nm d.fs d.fs[n].nm) b):=by
   rw[List.filter_map];unfold wout;rw[List.filter_filter];congr 1;apply List.filter_congr;intro f _
   show(!decide (f.nm=d.fs[n].nm\/f.nm=b))=(decide (f.nm≠b)&&decide (f.nm≠d.fs[n].nm))
   by_cases h1:f.nm=d.fs[n].nm<;>by_cases h2:f.nm=b<;>simp[h1,h2]
  rw[e];have g:(wout FiD.nm (wout FiD.nm d.fs d.fs[n].nm) b).length<=d.fs.length:=Nat.le_trans Zkv Zkv;exact Cl.of (Znq _ (srt_wout (srt_wout hp.2.2.2)) Vo ⟨b,d.fs[n].su,d.fs[n].lo⟩) ⟨_,rfl,rfl⟩
def dcut1_fn(a:n<d.fs.length)(i:Nat)(e:i<=d.fs[n].len):
  Ct prog 96 OO [SL 3 (fR d.fs),.ref 0 [I (n:Nat)],.ref 0 [S d.fs[n].nm],.ref 0 [I (i:Nat)]] (λr=>r=[SL 3 (fR (withB FiD.nm d.fs ⟨d.fs[n].nm,d.fs[n].su.take i,d.fs[n].lo.take (i-d.fs[n].su.length)⟩))]):=by
 have b:(0:Int)<=(n:Nat)/\((n:Nat):Int)<rlen (fR d.fs):=⟨Vo,by simpa using a⟩
 have c:=flen hp a;refine dcut1_nf ⟨b,b,_,_,_,Zaj _ _ _ a,Cl.of (Ztx _ _ (by unfold FiD.len at c;omega)) ⟨_,rfl,⟨Vo,Vo,by simp[FiD.len]at e|-;omega⟩,?_⟩⟩;rw[Zkp];have e1:List.drop (Int.toNat 0) (List.take ((i:Int)).toNat (d.fs[n].su++d.fs[n].lo))=d.fs[n].su.take i++d.fs[n].lo.take (i-d.fs[n].su.length):=(by simp[List.take_append]);have e2:imin (i:Int) (rlen (uR d.fs[n].su))=((d.fs[n].su.take i).length:Nat):=(by rw[imin_eq,rlen_eq,Zj1,List.length_take];omega);rw[e1,e2];refine Cl.of (Zl2 _ _ _) ⟨_,_,_,rfl,b,b,?_⟩;exact congrArg (λz=>[SL 3 z]) (set_eq hp a _ rfl)
end
section
variable(d:DiD)(h:d.ok)
include h
def Zov(s:BA):Ct prog 32 {} [d.sv,S s] (λr=>r=[SL 1 (uR (Ze4 d s).1),I (Ze4 d s).2]):=by
 refine dread_nf (Cl.of (Znr d h s) ⟨_,rfl,Zaa (λa=>?_) (λa=>?_)⟩)
 .simp at a;simp[Ze4,a]
 .simp at a;have b:=(Zb7.1 a).1;have g:=b.1.1;refine Cl.of (Zd0 d Vo s) ⟨_,rfl,?_⟩
  rcases d.get_cases s with⟨e1,e2,f⟩|⟨i,hi,e2,e1,f⟩
  .rw[e2];refine Zaa (λ_=>by simp[Ze4,a,e1]) (λk=>by simp at k)
  .rw[e2]
   have c:(0:Int)<=(i:Nat)/\((i:Nat):Int)<rlen (fR d.fs):=⟨Vo,by simpa using hi⟩
   have e:=flen b hi;refine Zaa (λk=>by simp at k) (λ_=>⟨c,_,_,_,Zaj _ _ _ hi,c,_,_,_,Zaj _ _ _ hi,Cl.of (Ztx _ _ (by unfold FiD.len at e;omega)) ⟨_,rfl,by simp[Ze4,a,e1]⟩⟩)
def Znh(s:BA):Ct prog 168 {} [d.sv,S s] (λr=>r=[(Za3 d s).1.sv,I (Za3 d s).2]):=by
 refine Zx1 (Cl.of (Znr d h s) ⟨_,rfl,Zaa (λa=>?_) (λa=>?_)⟩)
 .simp at a;simp[Za3,a]
 .simp at a;have b:=(Zb7.1 a).1;have f:=b.1.1;refine Cl.of (Zd0 d Vo s) ⟨_,rfl,?_⟩
  rcases d.get_cases s with⟨e1,e2,c⟩|⟨i,hi,e2,e1,c⟩
  .rw[e2];refine Zaa (λk=>by simp at k) (λ_=>Zaa (λk=>?_) (λk=>?_))
   .have k:d.fs.length=64:=(by simp at k;omega);simp[Za3,a,e1,k]
   .have k:¬d.fs.length=64:=λe=>by simp[e]at k
    refine Cl.of (Zcz d Vo b.1.2.2.2 h.2.2 244 _ _ (λ_=>dcre1_fn b s c)) ⟨_,_,_,_,_,rfl,?_⟩;simp[Za3,a,e1,k]
  .rw[e2];refine Zaa (λ_=>by simp[Za3,a,e1]) (λk=>by simp at k)
def Zni(s:BA)(x:List UInt8)(l:x.length<=9223372036854775807):Ct prog 169 {} [d.sv,S s,SL 1 (uR x)] (λr=>r=[(Zap d s x).1.sv,I (Zap d s x).2]):=by
 refine Zx2 (Cl.of (Znr d h s) ⟨_,rfl,Zaa (λa=>?_) (λa=>?_)⟩)
 .simp at a;simp[Zap,a]
 .simp at a;have b:=(Zb7.1 a).1;have m:=b.1.1;refine Cl.of (Zd0 d Vo s) ⟨_,rfl,?_⟩
  rcases d.get_cases s with⟨e1,e2,c⟩|⟨i,hi,e2,e1,c⟩
  .rw[e2];refine Zaa (λ_=>by simp[Zap,a,e1]) (λk=>by simp at k)
  .rw[e2];refine Zaa (λk=>by simp at k) (λ_=>Cl.of (Zkw d h) ⟨_,rfl,?_⟩);have n:=b.2.1;have j:=b.1.2.2.1;have g:=b.1.2.1;rw[Zar,rlen_eq,Zj1];refine Zaa (λk=>?_) (λk=>?_)
   .simp at k;simp[Zap,a,e1,k]
   .simp at k;have e:¬d.rm-usedL d.fs<x.length:=Vo;subst c;have f:=dapp1_fn b hi x Vo;refine Cl.of (Zcz d Vo b.1.2.2.2 h.2.2 246 _ _ (λ_=>f)) ⟨_,_,_,_,_,rfl,?_⟩;by_cases hz:d.st=0
    .have:d.perf (withB FiD.nm d.fs ⟨d.fs[i].nm,d.fs[i].su,d.fs[i].lo++x⟩)=({d with dn:=true},16):=(by unfold DiD.perf;rw[if_pos hz]);rw[this];refine Zaa (λ_=>Cl.of (Zl3 d.fs Vo) ⟨_,rfl,Cl.of f ⟨_,rfl,?_⟩⟩) (λk=>by simp at k);simp[Zap,a,e1,e,hz]
    .have:d.perf (withB FiD.nm d.fs ⟨d.fs[i].nm,d.fs[i].su,d.fs[i].lo++x⟩)=({d.tick with fs:=withB FiD.nm d.fs ⟨d.fs[i].nm,d.fs[i].su,d.fs[i].lo++x⟩},0):=(by unfold DiD.perf;rw[if_neg hz]);rw[this];refine Zaa (λk=>by simp at k) (λ_=>?_);simp[Zap,a,e1,e,hz]
def Zu4(s:BA):Ct prog 151 {} [d.sv,S s] (λr=>r=[(Zat d s).1.sv,I (Zat d s).2]):=by
 refine dsync_nf (Cl.of (Znr d h s) ⟨_,rfl,Zaa (λa=>?_) (λa=>?_)⟩)
 .simp at a;simp[Zat,a]
 .simp at a;have b:=(Zb7.1 a).1;have e:=b.1.1;refine Cl.of (Zd0 d Vo s) ⟨_,rfl,?_⟩
  rcases d.get_cases s with⟨e1,e2,c⟩|⟨i,hi,e2,e1,c⟩
  .rw[e2];refine Zaa (λ_=>by simp[Zat,a,e1]) (λk=>by simp at k)
  .rw[e2];subst c;refine Zaa (λk=>by simp at k) (λ_=>Cl.of (Zcz d Vo b.1.2.2.2 h.2.2 221 _ _ (λ_=>dsyn1_fn b hi)) ⟨_,_,_,_,_,rfl,?_⟩);simp[Zat,a,e1]
def Zxy(a b:BA):Ct prog 170 {} [d.sv,S a,S b] (λr=>r=[(Zbh d a b).1.sv,I (Zbh d a b).2]):=by
 refine Zx3 (Cl.of (ready2 d h a b) ⟨_,rfl,Zaa (λc=>?_) (λc=>?_)⟩)
 .simp at c;simp[Zbh,c]
 .simp at c;have e:=(Zb7.1 c).1;have g:=e.1.1;refine Cl.of (Zd0 d Vo a) ⟨_,rfl,?_⟩
  rcases d.get_cases a with⟨e1,e2,f⟩|⟨i,hi,e2,e1,f⟩
  .rw[e2];refine Zaa (λ_=>by simp[Zbh,c,e1]) (λk=>by simp at k)
  .rw[e2];subst f;refine Zaa (λk=>by simp at k) (λ_=>Cl.of (Zcz d Vo e.1.2.2.2 h.2.2 247 _ _ (λ_=>dren1_fn e hi b)) ⟨_,_,_,_,_,rfl,?_⟩);simp[Zbh,c,e1]
def dcut_fn(s:BA)(n:Int):Ct prog 33 {} [d.sv,S s,I n] (λr=>r=[(opCut d s n).1.sv,I (opCut d s n).2]):=by
 refine dcut_nf (Cl.of (Znr d h s) ⟨_,rfl,Zaa (λa=>?_) (λa=>?_)⟩)
 .simp at a;simp[opCut,a]
 .simp at a;have c:=(Zb7.1 a).1;have l:=c.1.1;refine Cl.of (Zd0 d Vo s) ⟨_,rfl,?_⟩
  rcases d.get_cases s with⟨e1,e2,e⟩|⟨i,hi,e2,e1,e⟩
  .rw[e2];refine Zaa (λ_=>by simp[opCut,a,e1]) (λk=>by simp at k)
  .rw[e2];subst e
   have f:(0:Int)<=(i:Nat)/\((i:Nat):Int)<rlen (fR d.fs):=⟨Vo,by simpa using hi⟩
   have j:=flen c hi;refine Zaa (λk=>by simp at k) (λ_=>Zaa (λk=>?_) (λk=>⟨f,_,_,_,Zaj _ _ _ hi,Cl.of (Zpp _ Vo) ⟨_,rfl,Zaa (λb=>?_) (λb=>?_)⟩⟩))
   .simp at k;refine Zaa (λ_=>by simp[opCut,a,e1,k]) (λb=>by simp at b)
   .simp at b;simp[opCut,a,e1,b]
   .simp at k b
    obtain⟨m,rfl⟩:∃m:Nat,n=m:=⟨n.toNat,Vo⟩
    have g:¬((m:Int)<0\/(d.fs[i].len:Int)<m):=Vo;refine Cl.of (Zcz d Vo c.1.2.2.2 h.2.2 96 _ _ (λ_=>dcut1_fn c hi m Vo)) ⟨_,_,_,_,_,rfl,?_⟩;simp only[opCut,a,e1,ne_eq,not_true,if_false,g,Int.toNat_natCast]
def Zgp(s:BA):Ct prog 106 {} [d.sv,S s] (λr=>r=[(Zae d s).1.sv,I (Zae d s).2]):=by
 refine Zx4 (Cl.of (Znr d h s) ⟨_,rfl,Zaa (λa=>?_) (λa=>?_)⟩)
 .simp at a;simp[Zae,a]
 .simp at a;have b:=(Zb7.1 a).1;have e:=b.1.1;refine Cl.of (Zd0 d Vo s) ⟨_,rfl,?_⟩
  rcases d.get_cases s with⟨e1,e2,c⟩|⟨i,hi,e2,e1,c⟩
  .rw[e2];refine Zaa (λ_=>by simp[Zae,a,e1]) (λk=>by simp at k)
  .rw[e2];subst c;refine Zaa (λk=>by simp at k) (λ_=>Cl.of (Zcz d Vo b.1.2.2.2 h.2.2 176 _ _ (λ_=>drem1_fn b hi)) ⟨_,_,_,_,_,rfl,?_⟩);simp[Zae,a,e1]
end
def qused_fn(d:DiD)(h:d.ok):Ct prog 45 {} [d.sv] (λr=>r=[I (usedL d.fs)]):=by
 obtain⟨c,f,_⟩:=h;refine qused_nf ⟨λx y=>∃i:Nat,y=i/\i<=d.fs.length/\x=usedL (d.fs.take i),λ_ y=>d.fs.length-y.toNat,⟨0,rfl,Vo,by simp[usedL]⟩,?_⟩;rintro _ _ ⟨i,rfl,hi,rfl⟩;refine Zaa (λh=>?_) (λh=>?_)
 .simp at h;have e:=Zrx d.fs i h;have e2:=used_le d.fs (i+1)
  have a:(0:Int)<=(i:Nat)/\((i:Nat):Int)<rlen (fR d.fs):=⟨Vo,by simpa using h⟩
  have b:=Ze6 (List.getElem_mem h);unfold FiD.len at e b;refine⟨a,_,_,_,Zaj _ _ _ h,a,_,_,_,Zaj _ _ _ h,rfl,?_,?_⟩
  .rw[waddN _,rlen_eq,rlen_eq,Zj1,Zj1,Zlb _ _ Vo,Zlb _ _ Vo];exact⟨i+1,rfl,Vo,by rw[e];omega⟩
  .rw[waddN _];exact stepL Vm
 .simp at h;have:i=d.fs.length:=Vo;subst this;rw[Yg]
section
variable(d:DiD)(h:d.ok)
include h
end
def qshort_fn(d:DiD)(h:d.fs.length<=70->d.ok)(m:d.fs.length<=9223372036854775807):Ct prog 11 {} [d.sv] (λr=>r=[B (decide (d.fs.length<=70/\usedL d.fs<=70000/\∀f∈d.fs,f.nm.size<=100))]):=by
 refine qshort_nf _ _ _ _ _ (Zaa (λa=>Zaa (λ_=>?_) (λk=>by simp at k)) (λa=>?_))
 .have:¬(d.fs.length<=70):=(by simp at a;omega);simp[this]
 .have a:d.fs.length<=70:=(by simp at a;omega);refine Cl.of (qused_fn d (h a)) ⟨_,rfl,Zaa (λb=>?_) (λb=>?_)⟩
  .have:¬(usedL d.fs<=70000):=(by simp at b;omega);simp[this]
  .have b:usedL d.fs<=70000:=(by simp at b;omega);refine⟨λ_ y=>∃i:Nat,y=i/\i<=d.fs.length/\∀j:Nat,∀c:j<d.fs.length,j<i->d.fs[j].nm.size<=100,λ_ y=>d.fs.length-y.toNat,⟨0,rfl,Vo,λj _ c=>Vo⟩,?_⟩;rintro _ _ ⟨i,rfl,hi,hall⟩;refine Zaa (λk=>?_) (λk=>?_)
   .have k:i<d.fs.length:=(by simpa using k);rw[waddN _];refine⟨⟨Vo,by simpa using k⟩,_,_,_,Zaj _ _ _ k,Zaa (λz=>?_) (λz=>⟨rfl,⟨i+1,rfl,Vo,λj c l=>?_⟩,stepL Vm⟩)⟩
    .have z:100<d.fs[i].nm.size:=(by simp at z;omega);have:¬∀f∈d.fs,f.nm.size<=100:=λq=>by have:=q _ (List.getElem_mem k);omega
     simp[this]
    .by_cases e:j=i
     .subst e;simp at z;omega
     .exact hall j c Vo
   .have k:¬i<d.fs.length:=(by simpa using k);have:∀f∈d.fs,f.nm.size<=100:=λf g=>by obtain⟨j,c,rfl⟩:=List.mem_iff_getElem.1 g;exact hall j c Vo
    have:d.fs.length<=70/\usedL d.fs<=70000/\∀f∈d.fs,f.nm.size<=100:=⟨a,b,this⟩
    rw[decide_eq_true this]
end Dsk
namespace Snp
open Go Go.Px Go.Proofs  Tryz
abbrev dk4(rows:LL)(b a:Int)(c:Bool):SV:=.agg [SL 3 rows,I b,I a,B c]
abbrev st3(rows:LL)(s a:Int):SV:=.agg [SL 21 rows,I s,I a]
abbrev U32(n:Int):SV:=SV.int .u32 n
def SgT:FuncId->Sig:=(λf=>bif Nat.beq f 242 then⟨[],[.own]⟩else bif Nat.beq f 220 then⟨[],[.own]⟩else bif Nat.beq f 307 then⟨[],[.own]⟩else bif Nat.beq f 287 then⟨[],[.own]⟩else{})
def SvT:TypeId->Sig:=(λf=>{})
def nname_nf(h:ifB (bpick (ilt i 0) true (igt i 4294967296)) (Q ([S (bA [])])) (Cl prog 153 sP [I i,I 10] (λc=>∃s,(c=[S s])/\Cl prog 154 sP ([S (bA [48]),I (wsub .i64 10 (slen s))]) (λb=>∃a,(b=[S a])/\((lsum (slen (bA [115,110,97,112,46])) (slen a))<=9223372036854775807)/\((lsum (slen (scat (bA [115,110,97,112,46]) a)) (slen s))<=9223372036854775807)/\Q ([S (scat (scat (bA [115,110,97,112,46]) a) s)]))))):Ct prog 171 {} [I i] Q:=
 fN SgT SvT func171 h
def nnum_nf(h:Cl prog 178 sP ([S s,S (bA [115,110,97,112,46])]) (λi=>∃c b,(i=[S c,B b])/\ifB (bpick (bnot b) true (ine (slen c) 10)) (Q [I 0,B false]) (∃e:Int->Bool->Int->Int->Prop,∃m:Int->Bool->Int->Int->Nat,(e 0 false 0 0)/\∀x g,∀d a,(e x g d a)->ifB (ilt a (slen c)) (((0<=a)/\a<(slen c))/\ifB (ilt (sbyte c a) 48) (Q [I 0,B false]) (((0<=a)/\a<(slen c))/\ifB (igt (sbyte c a) 57) (Q [I 0,B false]) (((0<=a)/\a<(slen c))/\((Option.some []:Option LL)=Option.some [])/\(e x g (wadd .i64 (wmul .i64 d 10) (wcv .i64 (wsub .u8 (sbyte c a) 48))) (wadd .i64 a 1))/\Nl (m x g (wadd .i64 (wmul .i64 d 10) (wcv .i64 (wsub .u8 (sbyte c a) 48))) (wadd .i64 a 1)) (m x g d a)))) (ifB (igt d 4294967296) (Q [I 0,B false]) (Q [I d,B true]))))):Ct prog 108 {} [S s] Q:=
 fN SgT SvT func108 h
def nenc_nf(h:Cl prog 241 sP ([SV.agg [SL 21 l,I i,I j]]) (λs=>∃c x,(s=[SL 1 c,I x])/\ifB (ine x 0) (Q ([SL 1 [],I 1])) (Cl prog 243 sP [] (λd=>∃b,(d=[SV.arr .u32 256 b])/\(0<(rlen ([[U8 102],[U8 98],[U8 115],[U8 49]])))/\((lsum (rlen ([[U8 102],[U8 98],[U8 115],[U8 49]])) (rlen c))<=2147483648)/\Cl prog 242 sO ([SV.arr .u32 256 b,SL 1 (rapp ([[U8 102],[U8 98],[U8 115],[U8 49]]) c)]) (λe=>∃g,(e=[SL 1 g])/\Q [SL 1 g,I 0]))))):Ct prog 167 {} [st3 l i j] Q:=
 fN SgT SvT func167 h
def ndec_nf{rows:LL}(h:Cl prog 243 sP [] (λn=>∃a,(n=[SV.arr .u32 256 a])/\Cl prog 257 sP [SV.arr .u32 256 a,SL 1 rows] (λc=>∃l x,(c=[SL 1 l,I x])/\ifB (ine x 0) (Q ([SV.agg ([SL 21 [],I 0,I 0]),I x])) ((0<(rlen ([[U8 102],[U8 98],[U8 115],[U8 49]])))/\Cl prog 258 sP ([SL 1 l,SL 1 ([[U8 102],[U8 98],[U8 115],[U8 49]])]) (λd=>∃g b,(d=[SL 1 g,B b])/\ifB (bnot b) (Q ([SV.agg ([SL 21 [],I 0,I 0]),I 11])) (Cl prog 259 sP [SL 1 g] (λe=>∃i j,∃k m,(e=[SV.agg [SL 21 i,I j,I k],I m])/\ifB (ine m 0) (Q ([SV.agg ([SL 21 [],I 0,I 0]),I 11])) (Q ([SV.agg [SL 21 i,I j,I k],I 0]))))))))):Ct prog 182 {} [SL 1 rows] Q:=
 fN SgT SvT func182 h
def nsave_nf{rows:LL}(h:Cl prog 46 sP ([SV.agg [SL 3 rows,I i,I c,B o]]) (λrs=>∃b,(rs=[B b])/\ifB (bnot b) (Q ([SV.agg [SL 3 rows,I i,I c,B o],I 1])) (Cl prog 101 sP ([SV.agg [SL 21 l,I j,I k]]) (λV=>∃Z,(V=[B Z])/\ifB (bnot Z) (Q ([SV.agg [SL 3 rows,I i,I c,B o],I 1])) (ifB o (Q ([SV.agg [SL 3 rows,I i,I c,B o],I 16])) (Cl prog 167 sP ([SV.agg [SL 21 l,I j,I k]]) (λW=>∃T x,(W=[SL 1 T,I x])/\ifB (ine x 0) (Q ([SV.agg [SL 3 rows,I i,I c,B o],I x])) (Cl prog 77 sP ([SV.agg [SL 3 rows,I i,I c,B o]]) (λX=>∃U,(X=[I U])/\Cl prog 32 sP ([SV.agg [SL 3 rows,I i,I c,B o],S (bA [116,109,112])]) (λY=>∃l1 R,(Y=[SL 1 l1,I R])/\ifB (ieq R 0) (ifB (bpick (igt (wadd .i64 (wsub .i64 U (rlen l1)) (rlen T)) i) true (igt (wadd .i64 (wsub .i64 (rlen rows) 1) 1) 64)) (Q ([SV.agg [SL 3 rows,I i,I c,B o],I 13])) (ifB (ieq R 0) (Cl prog 106 sP ([SV.agg [SL 3 rows,I i,I c,B o],S (bA [116,109,112])]) (λD=>∃n e,∃p q r,(D=[SV.agg [SL 3 n,I e,I p,B q],I r])/\ifB (ine r 0) (Q ([SV.agg [SL 3 n,I e,I p,B q],I r])) (Cl prog 168 sP ([SV.agg [SL 3 n,I e,I p,B q],S (bA [116,109,112])]) (λE=>∃t u,∃v b3 w,(E=[SV.agg [SL 3 t,I u,I v,B b3],I w])/\ifB (ine w 0) (Q ([SV.agg [SL 3 t,I u,I v,B b3],I w])) (Cl prog 169 sP ([SV.agg [SL 3 t,I u,I v,B b3],S (bA [116,109,112]),SL 1 T]) (λF=>∃y z,∃g A d,(F=[SV.agg [SL 3 y,I z,I g,B A],I d])/\ifB (ine d 0) (Q ([SV.agg [SL 3 y,I z,I g,B A],I d])) (Cl prog 151 sP ([SV.agg [SL 3 y,I z,I g,B A],S (bA [116,109,112])]) (λG=>∃C s,∃a b5 m,(G=[SV.agg [SL 3 C,I s,I a,B b5],I m])/\ifB (ine m 0) (Q ([SV.agg [SL 3 C,I s,I a,B b5],I m])) (Cl prog 171 sP [I j] (λH=>∃J,(H=[S J])/\Cl prog 170 sP ([SV.agg [SL 3 C,I s,I a,B b5],S (bA [116,109,112]),S J]) (λN=>∃O K,∃L P M,(N=[SV.agg [SL 3 O,I K,I L,B P],I M])/\Q ([SV.agg [SL 3 O,I K,I L,B P],I M])))))))))))) (Cl prog 168 sP ([SV.agg [SL 3 rows,I i,I c,B o],S (bA [116,109,112])]) (λD=>∃n e,∃p q r,(D=[SV.agg [SL 3 n,I e,I p,B q],I r])/\ifB (ine r 0) (Q ([SV.agg [SL 3 n,I e,I p,B q],I r])) (Cl prog 169 sP ([SV.agg [SL 3 n,I e,I p,B q],S (bA [116,109,112]),SL 1 T]) (λE=>∃t u,∃v b3 w,(E=[SV.agg [SL 3 t,I u,I v,B b3],I w])/\ifB (ine w 0) (Q ([SV.agg [SL 3 t,I u,I v,B b3],I w])) (Cl prog 151 sP ([SV.agg [SL 3 t,I u,I v,B b3],S (bA [116,109,112])]) (λF=>∃y z,∃g A d,(F=[SV.agg [SL 3 y,I z,I g,B A],I d])/\ifB (ine d 0) (Q ([SV.agg [SL 3 y,I z,I g,B A],I d])) (Cl prog 171 sP [I j] (λG=>∃J,(G=[S J])/\Cl prog 170 sP ([SV.agg [SL 3 y,I z,I g,B A],S (bA [116,109,112]),S J]) (λH=>∃C s,∃a b5 m,(H=[SV.agg [SL 3 C,I s,I a,B b5],I m])/\Q ([SV.agg [SL 3 C,I s,I a,B b5],I m])))))))))))) (ifB (bpick (igt (wadd .i64 U (rlen T)) i) true (igt (wadd .i64 (rlen rows) 1) 64)) (Q ([SV.agg [SL 3 rows,I i,I c,B o],I 13])) (ifB (ieq R 0) (Cl prog 106 sP ([SV.agg [SL 3 rows,I i,I c,B o],S (bA [116,109,112])]) (λD=>∃n e,∃p q r,(D=[SV.agg [SL 3 n,I e,I p,B q],I r])/\ifB (ine r 0) (Q ([SV.agg [SL 3 n,I e,I p,B q],I r])) (Cl prog 168 sP ([SV.agg [SL 3 n,I e,I p,B q],S (bA [116,109,112])]) (λE=>∃t u,∃v b3 w,(E=[SV.agg [SL 3 t,I u,I v,B b3],I w])/\ifB (ine w 0) (Q ([SV.agg [SL 3 t,I u,I v,B b3],I w])) (Cl prog 169 sP ([SV.agg [SL 3 t,I u,I v,B b3],S (bA [116,109,112]),SL 1 T]) (λF=>∃y z,∃g A d,(F=[SV.agg [SL 3 y,I z,I g,B A],I d])/\ifB (ine d 0) (Q ([SV.agg [SL 3 y,I z,I g,B A],I d])) (Cl prog 151 sP ([SV.agg [SL 3 y,I z,I g,B A],S (bA [116,109,112])]) (λG=>∃C s,∃a b5 m,(G=[SV.agg [SL 3 C,I s,I a,B b5],I m])/\ifB (ine m 0) (Q ([SV.agg [SL 3 C,I s,I a,B b5],I m])) (Cl prog 171 sP [I j] (λH=>∃J,(H=[S J])/\Cl prog 170 sP ([SV.agg [SL 3 C,I s,I a,B b5],S (bA [116,109,112]),S J]) (λN=>∃O K,∃L P M,(N=[SV.agg [SL 3 O,I K,I L,B P],I M])/\Q ([SV.agg [SL 3 O,I K,I L,B P],I M])))))))))))) (Cl prog 168 sP ([SV.agg [SL 3 rows,I i,I c,B o],S (bA [116,109,112])]) (λD=>∃n e,∃p q r,(D=[SV.agg [SL 3 n,I e,I p,B q],I r])/\ifB (ine r 0) (Q ([SV.agg [SL 3 n,I e,I p,B q],I r])) (Cl prog 169 sP ([SV.agg [SL 3 n,I e,I p,B q],S (bA [116,109,112]),SL 1 T]) (λE=>∃t u,∃v b3 w,(E=[SV.agg [SL 3 t,I u,I v,B b3],I w])/\ifB (ine w 0) (Q ([SV.agg [SL 3 t,I u,I v,B b3],I w])) (Cl prog 151 sP ([SV.agg [SL 3 t,I u,I v,B b3],S (bA [116,109,112])]) (λF=>∃y z,∃g A d,(F=[SV.agg [SL 3 y,I z,I g,B A],I d])/\ifB (ine d 0) (Q ([SV.agg [SL 3 y,I z,I g,B A],I d])) (Cl prog 171 sP [I j] (λG=>∃J,(G=[S J])/\Cl prog 170 sP ([SV.agg [SL 3 y,I z,I g,B A],S (bA [116,109,112]),S J]) (λH=>∃C s,∃a b5 m,(H=[SV.agg [SL 3 C,I s,I a,B b5],I m])/\Q ([SV.agg [SL 3 C,I s,I a,B b5],I m])))))))))))))))))))))):Ct prog 104 {} [dk4 rows i c o,st3 l j k] Q:=
 fN SgT SvT func104 h
def nnew_nf{rows:LL}(h:Cl prog 46 sP ([SV.agg [SL 3 rows,I i,I j,B o]]) (λC=>∃b,(C=[B b])/\ifB (bnot b) (Q ([SV.agg ([SL 21 [],I 0,I 0]),I 1])) (ifB o (Q ([SV.agg ([SL 21 [],I 0,I 0]),I 16])) (Cl prog 107 sP ([SV.agg [SL 3 rows,I i,I j,B o]]) (λr=>∃l,(r=[SL 1 l])/\∃a:Int->LL->Int->Int->Prop,∃m:Int->LL->Int->Int->Nat,(a 0 [] ((-1:Int)) 0)/\∀x g,∀e d,(a x g e d)->ifB (ilt x (rlen l)) (((0<=x)/\x<(rlen l))/\∃s,(rget l x=[S s])/\Cl prog 108 sP [S s] (λt=>∃c w,(t=[I c,B w])/\ifB (bpick (bnot w) true (ile c e)) ((Sm (some ([[SL 3 rows,I i,I j,B o],[SV.slice 21 [] 1,I 0,I 0]])))/\(a (wadd .i64 x 1) g e d)/\Nl (m (wadd .i64 x 1) g e d) (m x g e d)) (Cl prog 32 sP ([SV.agg [SL 3 rows,I i,I j,B o],S s]) (λu=>∃y z,(u=[SL 1 y,I z])/\ifB (ine z 0) ((Sm (some ([[SL 3 rows,I i,I j,B o],[SV.slice 21 [] 1,I 0,I 0]])))/\(a (wadd .i64 x 1) g e d)/\Nl (m (wadd .i64 x 1) g e d) (m x g e d)) (Cl prog 182 sP [SL 1 y] (λv=>∃p n,∃q A,(v=[SV.agg [SL 21 p,I n,I q],I A])/\ifB (bpick (ieq A 0) (ieq n c) false) ((Sm (some ([[SL 3 rows,I i,I j,B o],[SV.slice 21 [] 1,I 0,I 0]])))/\(a (wadd .i64 x 1) p n q)/\Nl (m (wadd .i64 x 1) p n q) (m x g e d)) ((Sm (some ([[SL 3 rows,I i,I j,B o],[SV.slice 21 [] 1,I 0,I 0]])))/\(a (wadd .i64 x 1) g e d)/\Nl (m (wadd .i64 x 1) g e d) (m x g e d)))))))) (ifB (ilt e 0) (Q ([SV.agg ([SL 21 [],I 0,I 0]),I 14])) (Q ([SV.agg [SL 21 g,I e,I d],I 0])))))))):Ct prog 113 {} [dk4 rows i j o] Q:=
 fO SgT SvT (λk=>bif Nat.beq k 24 then some {slots:=[(23,false,[.int .i64])],boxes:=[(512,[.sl 21,.int .i64,.int .i64])],fixed:=[128,256]}else none) func113 h
def Zup(h:Cl prog 252 sP [S s,S t] (λc=>∃a b,(c=[S a,B b])/\Q [S a,B b])):Ct prog 178 {} [S s,S t] Q:=
 fN SgT SvT func178 h
def Zql(s t:BA)(Q:QQ)(h:Cl prog 295 sP [S s,S t] (λa=>∃b,(a=[B b])/\ifB (bnot b) (Q [S s,B false]) (((0<=(slen t))/\((slen t)<=(slen s))/\(slen s)<=(slen s))/\Q [S (ssub s (slen t) (slen s)),B true]))):Ct prog 252 {} [S s,S t] Q:=
 fN SgT SvT func252 h
end Snp
namespace Snp
open Go Go.Px Go.Proofs Cod Seg Sgr Sx Row Tryz
abbrev pre:List UInt8:=[115,110,97,112,46]
def snNm(q:Int):BA:=⟨(pre++dgs 10 q.toNat).toArray⟩
def inQ(q:Int):Prop:=0<=q/\q<=4294967296
instance (q:Int):Decidable (inQ q):=inferInstanceAs (Decidable (_/\_))
def isD(c:UInt8):Prop:=48<=c.toNat/\c.toNat<=57
def vD(l:List UInt8):Nat:=l.foldl (λn c=>10*n+(c.toNat-48)) 0
def Zuc(l:List UInt8)(c:UInt8):vD (l++[c])=10*vD l+(c.toNat-48):=by simp[vD]
def Zp4:∀(k n:Nat),∀c∈dgs k n,isD c
 |0,_,c,h=>by cases h
 |k+1,n,c,h=>by
  rw[dgs,List.mem_append]at h
  rcases h with h|h
  .exact Zp4 k _ c h
  .simp at h;subst h;unfold isD;rw[show(48:UInt8)+UInt8.ofNat (n%10)=UInt8.ofNat (48+n%10) by simp];have:(UInt8.ofNat (48+n%10)).toNat=48+n%10:=by simp[UInt8.toNat_ofNat'];omega
   omega
def Zr7:∀(k n:Nat),n<10^k->vD (dgs k n)=n
 |0,n,h=>by simp at h;subst h;rfl
 |k+1,n,h=>by have e:(UInt8.ofNat (48+n%10)).toNat=48+n%10:=(by simp[UInt8.toNat_ofNat'];omega);rw[dgs,Zuc,Zr7 k (n/10) (by rw[Nat.pow_succ]at h;omega),e];omega
def dgs_vDr:∀(r:List UInt8),(∀c∈r,isD c)->dgs r.length (vD r.reverse)=r.reverse/\vD r.reverse<10^r.length
 | [],_=>⟨rfl,Vd⟩
 |c::r,h=>by
  obtain⟨b,e⟩:=dgs_vDr r λx a=>h x (by simp[a]);have d:=h c Vs;unfold isD at d;rw[List.reverse_cons,Zuc,List.length_cons];constructor
  .rw[dgs,show(10*vD r.reverse+(c.toNat-48))/10=vD r.reverse by omega,b,show(10*vD r.reverse+(c.toNat-48))%10=c.toNat-48 by omega,show 48+(c.toNat-48)=c.toNat by omega,UInt8.ofNat_toNat]
  .rw[Nat.pow_succ];omega
def dgs_vD(l:List UInt8)(h:∀c∈l,isD c):dgs l.length (vD l)=l/\vD l<10^l.length:=by
 have:=dgs_vDr l.reverse λc a=>h c (by simpa using a)
 simpa using this
def Zk0(c:inQ i)(d:inQ b)(h:snNm i=snNm b):i=b:=by
 have e:(pre++dgs 10 i.toNat)=pre++dgs 10 b.toNat:=by
  have:=congrArg (λs:BA=>s.data.toList) h
  simpa[snNm]using this
 have f:=congrArg vD (List.append_cancel_left e);unfold inQ at c d;rw[Zr7 10 _ Vo,Zr7 10 _ Vo]at f;omega
def nname_fn(n:Int):Ct prog 171 {} [I n] (λr=>r=[S (if inQ n then snNm n else ByteArray.mk #[])]):=by
 refine nname_nf (Zaa (λh=>?_) (λh=>?_))
 .simp only[bor_t,ilt,igt,decide_eq_true_eq]at h;have:¬inQ n:=by unfold inQ;omega
  rw[if_neg this]
 .simp only[bor_f,ilt,igt,decide_eq_false_iff_not]at h;have a:inQ n:=by unfold inQ;omega
  rw[if_pos a];have b:Lib.itoa n=Lib.decDigits n.toNat:=by unfold Lib.itoa;rw[if_neg Vo]
  have d:(Lib.decDigits n.toNat).length<=10:=Zjz Vo Vo;refine Cl.of (Zwz n Vo Vo) ⟨_,rfl,?_⟩;rw[b,Zj0];have w:wsub IntKind.i64 10 ((Lib.decDigits n.toNat).length:Int)=((10-(Lib.decDigits n.toNat).length:Nat):Int):=(by rw[Zar];omega);rw[w];refine Cl.of (Zr6 ⟨[48].toArray⟩ _ Vo (by simp[ByteArray.size];omega)) ⟨_,rfl,?_⟩;have c:(bA [115,110,97,112,46])=⟨pre.toArray⟩:=rfl;have e1:(ByteArray.mk [48].toArray).data.toList=[48]:=rfl;rw[e1,repeat0,c,Zuv,Zuv,Zj0,Zj0,Zj0];refine⟨by simp[lsum];omega,by simp[lsum];omega,?_⟩;rw[List.append_assoc,Zop 10 n.toNat Vo Vo];rfl
def NumR(s:BA)(n:Int)(b:Bool):Prop:=(∃q,inQ q/\s=snNm q/\n=q/\b=true)\/((∀q,inQ q->s≠snNm q)/\n=0/\b=false)
def NumR.no(h:∀q,inQ q->s≠snNm q):NumR s 0 false:=.inr ⟨h,rfl,rfl⟩
def Zcr(q:Int):(snNm q).data.toList=pre++dgs 10 q.toNat:=by simp[snNm]
def Zw0(c:n+5<s.data.toList.length)(h:¬isD (s.data.toList[n+5])):∀q,inQ q->s≠snNm q:=by
 rintro q d rfl;apply h;have a:=Zcr q;have b:(snNm q).data.toList.length=15:=by rw[a];simp[Zcv]
 have:(snNm q).data.toList[n+5]=(dgs 10 q.toNat)[n]'(by rw[Zcv];omega):=(by simp only[a];rw[WK Vs];simp);rw[this];exact Zp4 _ _ _ (List.getElem_mem _)
structure Dig(s:BA)(i:Nat)(n:Int):Prop where
 len:s.data.toList.length=15
 pre:s.data.toList.take 5=pre
 ds:∀j (h:j<i) (h2:i<=10),isD (s.data.toList[j+5]'Vo)
 val:n=(vD ((s.data.toList.drop 5).take i):Nat)
def Dig.step(h:Dig s n i)(d:n<10)(a:isD (s.data.toList[n+5]'(by have:=h.len;omega))):Dig s (n+1) (10*i+((s.data.toList[n+5]'(by have:=h.len;omega)).toNat-48)):=by
 have c:=h.len;refine⟨h.len,h.pre,λj f g=>?_,?_⟩
 .by_cases e:j=n
  .subst e;exact a
  .exact h.ds j Vo Vo
 .have b:n<(s.data.toList.drop 5).length:=(by simp at c|-;omega);rw[List.take_succ_eq_append_getElem b,Zuc];have k:=h.val;unfold isD at a;have e:(s.data.toList.drop 5)[n]=s.data.toList[n+5]'Vo:=(by rw[List.getElem_drop];congr 1;omega);rw[e];omega
def vD_lt(l:List UInt8)(h:∀c∈l,isD c):vD l<10^l.length:=(dgs_vD l h).2
def Dig.lt{s:BA}{i:Nat}{n:Int}(h:Dig s i n)(d:i<=10):0<=n/\n<10000000000:=by
 have l:=h.len
 have g:∀c∈(s.data.toList.drop 5).take i,isD c:=by
  intro c f;obtain⟨j,a,e⟩:=YE f;have b:j<i:=by simp at a;omega
  have:=h.ds j b d;rw[List.getElem_take,List.getElem_drop]at e;rw[<-e];have e2:s.data.toList[5+j]'(by simp at a;omega)=s.data.toList[j+5]'Vo:=(by congr 1;omega);rw[e2];exact this
 have m:=vD_lt _ g;have k:((s.data.toList.drop 5).take i).length<=10:=Vm;have o:10^((s.data.toList.drop 5).take i).length<=10^10:=Nat.pow_le_pow_right Vo k;have:=h.val;have p:(10:Nat)^10=10000000000:=Vd;omega
def Dig.done{s:BA}{n:Int}(h:Dig s 10 n):s=snNm n:=by
 have a:=h.len
 have m:∀c∈s.data.toList.drop 5,isD c:=by
  intro c k;obtain⟨j,l,e⟩:=YE k;have d:j<10:=by simp at l a;omega
  have:=h.ds j d Vo;rw[List.getElem_drop]at e;rw[<-e];have e2:s.data.toList[5+j]'Vo=s.data.toList[j+5]'Vo:=(by congr 1;omega);rw[e2];exact this
 obtain⟨b,o⟩:=dgs_vD _ m;have f:=h.val;have g:(s.data.toList.drop 5).take 10=s.data.toList.drop 5:=List.take_of_length_le (by simp at a|-;omega);rw[g]at f;have i:(s.data.toList.drop 5).length=10:=by simp at a|-;omega
 rw[i]at b;have e:s.data.toList=Snp.pre++dgs 10 n.toNat:=(by rw[f,Int.toNat_natCast,b,<-h.pre,List.take_append_drop]);exact(Ze3 _ _).1 (by rw[ByteArray.toList_eq,ByteArray.toList_eq,Zcr,e])
def Zp2(s:BA)(l h:Int):(ssub s l h).data.toList=(s.data.toList.take h.toNat).drop l.toNat:=by
 unfold ssub;rw[ByteArray.data_extract,Array.toList_extract];simp[List.extract_eq_take_drop,List.drop_take]
def Zhq(s:BA):slen s=s.data.toList.length:=by
 show((s.size:Nat):Int)=_;rw[Zcw]
def seq_bl(a b:BA):seq a b=decide (a.data.toList=b.data.toList):=by
 rw[seq_d];apply decide_eq_decide.2;rw[<-Ze3,ByteArray.toList_eq,ByteArray.toList_eq]
def sbyte_bl(s:BA)(i:Int)(a:0<=i)(h:i<s.data.toList.length):sbyte s i=((s.data.toList[i.toNat]'Vo).toNat:Int):=by
 have:=sbyte_u s i.toNat (by rw[Zcw];omega);rw[show((i.toNat:Nat):Int)=i by omega]at this;exact this
def scut_fn(s:BA):Ct prog 178 {} [S s,S (bA [115,110,97,112,46])] (λr=>r=if s.data.toList.take 5=pre then[S (ssub s 5 (slen s)),B true]else[S s,B false]):=by
 have a:slen (bA [115,110,97,112,46])=5:=Vd;have c:=Zhq s;refine Zup (Cl.ofQ (Zql s (bA [115,110,97,112,46]) (λr=>r=if s.data.toList.take 5=pre then[S (ssub s 5 (slen s)),B true]else[S s,B false]) ?_) ?_)
 .rw[a]
  have b:Ct prog 295 {} [S s,S (bA [115,110,97,112,46])] (λr=>r=[B (decide (s.data.toList.take 5=pre))]):=by
   refine Zuz ?_;rw[a];refine Zaa (λh=>⟨⟨Vo,Vo,by simp only[ige_eq,decide_eq_true_eq]at h;omega⟩,?_⟩) (λh=>?_)
   .rw[seq_bl,Zp2];congr 3
   .have:¬s.data.toList.take 5=pre:=λe=>by have:=congrArg List.length e;simp only[ige_eq,decide_eq_false_iff_not]at h;simp only[List.length_take,show pre.length=5 from rfl]at this;omega
    rw[decide_eq_false this]
  refine Cl.of b ⟨_,rfl,Zaa (λh=>?_) (λh=>⟨⟨Vo,?_,Vo⟩,?_⟩)⟩
  .simp at h;rw[if_neg h]
  .simp only[bnot,YG,decide_eq_true_eq]at h;have:=congrArg List.length h;simp only[List.length_take,show pre.length=5 from rfl]at this;omega
  .simp at h;rw[if_pos h]
 .rintro r rfl
  split
  .exact⟨_,_,rfl,rfl⟩
  .exact⟨_,_,rfl,rfl⟩
def no_pre(h:¬s.data.toList.take 5=pre):∀q,inQ q->s≠snNm q:=by
 rintro q _ rfl;exact h (by rw[Zcr];rfl)
def no_len(h:¬s.data.toList.length=15):∀q,inQ q->s≠snNm q:=by
 rintro q _ rfl;exact h (by rw[Zcr];simp[Zcv])
def Dig.zero{s:BA}(a:s.data.toList.length=15)(b:s.data.toList.take 5=Snp.pre):Dig s 0 0:=⟨a,b,λj h=>Vo,rfl⟩
def Dig.num{s:BA}{n:Int}(h:Dig s 10 n):if 4294967296<n then NumR s 0 false else NumR s n true:=by
 have f:=h.lt Vo;have b:=h.done
 split
 next g=>refine .inr ⟨λq a e=>?_,rfl,rfl⟩;have c:=h.val;have d:(s.data.toList.drop 5).take 10=dgs 10 q.toNat:=(by rw[e,Zcr];show(dgs 10 q.toNat).take 10=_;exact List.take_of_length_le (by rw[Zcv];omega));unfold inQ at a;rw[d,Zr7 10 _ Vo]at c;omega
 .exact .inl ⟨n,⟨Vo,Vo⟩,b,rfl,rfl⟩
def digit_val{c:UInt8}(h:isD c):wcv IntKind.i64 (wsub IntKind.u8 (c.toNat:Int) 48)=c.toNat-48:=by
 unfold isD at h;have:wsub IntKind.u8 (c.toNat:Int) 48=c.toNat-48:=(by simp[wsub,IntKind.wrap,IntKind.signed,IntKind.bits];omega);rw[this];exact Zbg Vo Vo
def nnum_fn(s:BA):Ct prog 108 {} [S s] (λr=>∃n b,r=[I n,B b]/\NumR s n b):=by
 have no:(∀q,inQ q->s≠snNm q)->∃n b,([I 0,B false]:List SV)=[I n,B b]/\NumR s n b:=λh=>⟨_,_,rfl,.no h⟩
 have u:=Zhq s;refine nnum_nf (Cl.of (scut_fn s) ?_);by_cases hp:s.data.toList.take 5=pre
 rotate_left
 .rw[if_neg hp];exact⟨_,_,rfl,Zaa (λ_=>no (no_pre hp)) (λh=>by simp at h)⟩
 rw[if_pos hp];refine⟨_,_,rfl,?_⟩;have d:(ssub s 5 (slen s)).data.toList=s.data.toList.drop 5:=(by rw[Zp2,u,Int.toNat_natCast,Yg];rfl);have o:slen (ssub s 5 (slen s))=(s.data.toList.drop 5).length:=(by rw[Zhq,d]);have w:5<=s.data.toList.length:=(by have:=congrArg List.length hp;simp at this|-;omega);rw[o];refine Zaa (λh=>no (no_len λe=>?_)) (λh=>?_)
 .simp at h e;omega
 have j:s.data.toList.length=15:=(by simp at h|-;omega);have m:((s.data.toList.drop 5).length:Int)=10:=(by simp at j|-;omega);rw[m];have p:∀i:Int,0<=i->i<10->∃l:i.toNat+5<s.data.toList.length,sbyte (ssub s 5 (slen s)) i=((s.data.toList[i.toNat+5]).toNat:Int):=(by intro i t g;refine⟨Vo,?_⟩;rw[sbyte_bl _ _ t (by rw[d];omega)];congr 2;simp only[d,List.getElem_drop];congr 1;omega);refine⟨λ_ _ f a=>0<=a/\a<=10/\Dig s a.toNat f,λ_ _ _ a=>(10-a).toNat,⟨Vo,Vo,.zero j hp⟩,?_⟩;rintro _ _ f a ⟨i0,i1,dg⟩;refine Zaa (λh=>?_) (λh=>?_)
 .simp at h;obtain⟨l,e⟩:=p a i0 h;rw[e];refine⟨⟨i0,h⟩,Zaa (λg=>no (Zw0 l λc=>?_)) (λg=>⟨⟨i0,h⟩,Zaa (λk=>no (Zw0 l λc=>?_)) (λk=>?_)⟩)⟩
  .unfold isD at c;simp only[ilt,decide_eq_true_eq]at g;omega
  .unfold isD at c;simp only[igt,decide_eq_true_eq]at k;omega
  .have c:isD (s.data.toList[a.toNat+5]):=(by unfold isD;simp only[ilt,igt,decide_eq_false_iff_not]at g k;omega);have v:=dg.lt Vo;have hst:=dg.step Vo c;rw[digit_val c];unfold isD at c;have w1:wmul IntKind.i64 f 10=f*10:=Zbg Vo Vo;have w2:wadd IntKind.i64 a 1=a+1:=Zab;rw[w1,w2,Zab];refine⟨⟨i0,h⟩,rfl,⟨Vo,Vo,?_⟩,mlt (by dsimp only;omega)⟩;rw[show(a+1).toNat=a.toNat+1 by omega,Int.mul_comm];exact hst
 .simp at h;have e:a.toNat=10:=Vo;rw[e]at dg;have:=dg.num;refine Zaa (λh=>?_) (λh=>?_)
  .simp at h;rw[if_pos h]at this;exact⟨_,_,rfl,this⟩
  .simp at h;rw[if_neg Vo]at this;exact⟨_,_,rfl,this⟩
abbrev mg:List Int:=[102,98,115,49]
def snB(d:StD):List Int:=sealB (mg++encS d)
def byts_mg:Byts mg:=λx a=>by simp at a;omega
def snB_byts(d:StD):Byts (snB d):=Zjs (byts_mg.app (byts_encS d))
def snB_len(h:g.P):(snB g).length<=8008/\8<=(snB g).length:=by
 have:=Zu0 h;simp only[snB,Zgf,List.length_append,List.length_cons,List.length_nil];omega
def Zl4{a b:List Int}(h:sealB a=sealB b):a=b:=by
 have c:=congrArg List.length h;rw[Zgf,Zgf]at c;unfold sealB at h;exact(List.append_inj h Vo).1
def Zpb{d e:StD}(a:d.P)(b:e.P)(h:snB d=snB e):d=e:=
 encS_inj a b (List.append_cancel_left (Zl4 h))
def nenc_fn(d:StD):Ct prog 167 {} [d.sv] (λr=>r=if d.P then[SL 1 (bR (snB d)),I 0]else[SL 1 [],I 1]):=by
 refine nenc_nf (Cl.of (renc_fn d) ⟨_,_,rfl,?_⟩);unfold encI;by_cases h:d.P
 .rw[if_pos h,if_pos h];have a:=Zu0 h;refine Zaa (λh=>by simp at h) (λ_=>Cl.of Zi7 ⟨_,rfl,by simp[rlen],by simp[lsum,rlen];omega,?_⟩);have e:rapp [[U8 102],[U8 98],[U8 115],[U8 49]] (bR (encS d))=bR (mg++encS d):=rfl;rw[e];exact Cl.of (Zqf _ Vm) ⟨_,rfl,rfl⟩
 .rw[if_neg h,if_neg h];exact Zaa (λ_=>rfl) (λh=>by simp at h)
def decE(l:List Int):Int:=if l.length<4 then 10 else if sealB (l.take (l.length-4))=l then 11 else 12
def SnD(l:List Int)(d:StD)(e:Int):Prop:=(d.P/\snB d=l/\e=0)\/((∀a:StD,a.P->snB a≠l)/\d=st0/\e=decE l)
def Zvs(l:List Int):decE l≠0:=by
 unfold decE
 split
 .omega
 .split<;>omega
def ndec_fn(l:List Int)(o:l.length<=100000)(j:Byts l):Ct prog 182 {} [SL 1 (bR l)] (λr=>∃d e,r=[StD.sv d,I e]/\SnD l d e):=by
 have no:∀e,(∀a:StD,a.P->snB a≠l)->e=decE l->∃d k,([.agg [SL 21 [],I 0,I 0],I e]:List SV)=[StD.sv d,I k]/\SnD l d k:=λe h f=>⟨st0,e,rfl,.inr ⟨h,rfl,f⟩⟩
 refine ndec_nf (Cl.of Zi7 ⟨_,rfl,Cl.of (Zxb l j Vo) ⟨_,_,rfl,?_⟩⟩);unfold openE;by_cases h4:l.length<4
 .rw[if_pos h4];refine Zaa (λ_=>no 10 (λa h e=>?_) (by unfold decE;rw[if_pos h4])) (λh=>by simp at h);have:=snB_len h;rw[e]at this;omega
 rw[if_neg h4];by_cases hs:sealB (l.take (l.length-4))=l
 rotate_left
 .rw[if_neg hs];refine Zaa (λ_=>no 12 (λa h e=>hs ?_) (by unfold decE;rw[if_neg h4,if_neg hs])) (λh=>by simp at h);have m:(mg++encS a).length=l.length-4:=by rw[<-e,snB,Zgf];omega
  have:l.take (l.length-4)=mg++encS a:=(by rw[<-m,<-e,snB,sealB,YX]);rw[this];exact e
 rw[if_pos hs];have b:Byts (l.take (l.length-4)):=j.sub λx g=>List.mem_of_mem_take g;have c:decE l=11:=by unfold decE;rw[if_neg h4,if_pos hs]
 refine Zaa (λh=>by simp at h) (λ_=>⟨by simp[rlen],Cl.ofQ (Zwf (l.take (l.length-4)) mg b byts_mg) ?_⟩);rintro r (⟨t,ht,rfl⟩|⟨hno,rfl⟩)
 .have i:Byts t:=b.sub λx g=>by rw[ht];exact List.mem_append.2 (.inr g)
  have n:t.length<=100000:=(by have:=congrArg List.length ht;simp at this;omega);refine⟨_,_,rfl,Zaa (λh=>by simp at h) (λ_=>Cl.ofQ (rdec_fn t n i) ?_)⟩;rintro r ⟨d,e,rfl,⟨h1,f,rfl⟩|⟨h1,rfl,rfl⟩⟩
  .refine⟨_,_,_,_,rfl,Zaa (λh=>by simp at h) (λ_=>⟨d,0,rfl,.inl ⟨h1,?_,rfl⟩⟩)⟩;rw[snB,f,<-ht,hs]
  .refine⟨_,_,_,_,rfl,Zaa (λ_=>no 11 (λa h e=>h1 a h ?_) c.symm) (λh=>by simp at h)⟩;rw[<-hs,ht]at e;exact List.append_cancel_left (Zl4 e)
 .refine⟨_,_,rfl,Zaa (λ_=>no 11 (λa h e=>hno (encS a) ?_) c.symm) (λh=>by simp at h)⟩;rw[<-hs]at e;exact(Zl4 e).symm
abbrev iU(l:List UInt8):List Int:=l.map λb=>(b.toNat:Int)
def snU(d:StD):List UInt8:=(snB d).map λn=>UInt8.ofNat n.toNat
theorem uR_bR(l:List UInt8):uR l=bR (iU l):=by simp[iU]
def iU_byts(l:List UInt8):Byts (iU l):=by
 intro x a;obtain⟨b,_,rfl⟩:=Y5.1 a;have:=b.toNat_lt;omega
def iU_inj{a b:List UInt8}(h:iU a=iU b):a=b:=uR_inj.1 (by rw[uR_bR,uR_bR,h])
theorem iU_of{l:List Int}(h:Byts l):iU (l.map λn=>UInt8.ofNat n.toNat)=l:=by
 simp only[iU,List.map_map]
 conv=>rhs;rw[<-W5 l]
 apply List.map_congr_left;intro x a;have:=h x a;simp[UInt8.toNat_ofNat'];omega
def snU_i(d:StD):iU (snU d)=snB d:=iU_of (snB_byts d)
def snU_row(d:StD):bR (snB d)=uR (snU d):=by rw[uR_bR,snU_i]
def snU_len(d:StD):(snU d).length=(snB d).length:=by simp[snU]
def snU_iff{l:List UInt8}:snB g=iU l↔snU g=l:=by
 rw[<-snU_i];exact⟨iU_inj,λh=>by rw[h]⟩
end Snp
namespace Snp
open Go Go.Px Go.Proofs Cod Seg Sgr Sx Row Dsk Tryz
abbrev tmpB:BA:=bA [116,109,112]
def chn(p:DiD×Int)(f:DiD->DiD×Int):DiD×Int:=if p.2=0 then f p.1 else p
def oldN(d:DiD):Nat:=match d.get tmpB with|some f=>f.len|none=>0
def newF(d:DiD):Nat:=match d.get tmpB with|some _=>0|none=>1
def mkT(d:DiD)(x:List UInt8)(q:Int):DiD×Int:=chn (chn (chn (Za3 d tmpB) λd=>Zap d tmpB x) λd=>Zat d tmpB) λd=>Zbh d tmpB (snNm q)
def rmT(d:DiD):DiD×Int:=match d.get tmpB with|some _=>Zae d tmpB|none=>(d,0)
def saveD(d:DiD)(s:StD):DiD×Int:=
 if¬(d.P/\s.P)then(d,1)else if d.dn=true then(d,16)
 else if d.rm+oldN d<usedL d.fs+(snU s).length\/64<d.fs.length+newF d then(d,13)
 else chn (rmT d) λd=>mkT d (snU s) s.q
def Good(d:DiD):Prop:=d.st<=9223372036854775807
def Good.ok{d:DiD}(h:Good d)(a:d.P):d.ok:=DiD.P.ok a h
def mkT_fn(d:DiD)(w:d.P)(y:Good d)(x:List UInt8)(M:x.length<=9223372036854775807)(b:Int)(N:inQ b)(Q:List SV->Prop)(a:Q [(mkT d x b).1.sv,I (mkT d x b).2]):
  (Cl prog 168 sP ([SV.agg [SL 3 (fR d.fs),I d.rm,I d.st,B d.dn],S (bA [116,109,112])]) (λ(z:List SV)=>∃j:LL,∃k:Int,∃l:Int,∃m:Bool,∃n:Int,(z=[SV.agg [SL 3 j,I k,I l,B m],I n])/\(ifB (ine n 0) (Q ([SV.agg [SL 3 j,I k,I l,B m],I n])) (Cl prog 169 sP ([SV.agg [SL 3 j,I k,I l,B m],S (bA [116,109,112]),SL 1 (uR x)]) (λ(A:List SV)=>∃o:LL,∃p:Int,∃q:Int,∃b3:Bool,∃r:Int,(A=[SV.agg [SL 3 o,I p,I q,B b3],I r])/\(ifB (ine r 0) (Q ([SV.agg [SL 3 o,I p,I q,B b3],I r])) (Cl prog 151 sP ([SV.agg [SL 3 o,I p,I q,B b3],S (bA [116,109,112])]) (λ(C:List SV)=>∃t:LL,∃u:Int,∃c:Int,∃v:Bool,∃e:Int,(C=[SV.agg [SL 3 t,I u,I c,B v],I e])/\(ifB (ine e 0) (Q ([SV.agg [SL 3 t,I u,I c,B v],I e])) (Cl prog 171 sP [I b] (λ(D:List SV)=>∃F:BA,(D=[S F])/\(Cl prog 170 sP ([SV.agg [SL 3 t,I u,I c,B v],S (bA [116,109,112]),S F]) (λ(E:List SV)=>∃G:LL,∃f:Int,∃g:Int,∃b5:Bool,∃i:Int,(E=[SV.agg [SL 3 G,I f,I g,B b5],I i])/\(Q ([SV.agg [SL 3 G,I f,I g,B b5],I i]))))))))))))))):=by
 refine Cl.of (Znh d (y.ok w) tmpB) ⟨_,_,_,_,_,rfl,?_⟩;have H:=Zgv (s:=tmpB) w;have J:Good (Za3 d tmpB).1:=Int.le_trans Zhl y;unfold mkT at a;generalize Za3 d tmpB=r1 at*;refine Zaa (λh=>?_) (λh=>?_)
 .simp at h;simp only[chn,if_neg h]at a;exact a
 simp at h;have O:chn r1 (λd=>Zap d tmpB x)=Zap r1.1 tmpB x:=by unfold chn;rw[if_pos h]
 rw[O]at a;refine Cl.of (Zni r1.1 (J.ok H) tmpB x M) ⟨_,_,_,_,_,rfl,?_⟩;have K:=Zgw (s:=tmpB) (x:=x) H;have L:Good (Zap r1.1 tmpB x).1:=Int.le_trans Zhm J;generalize Zap r1.1 tmpB x=r2 at*;refine Zaa (λh=>?_) (λh=>?_)
 .simp at h;simp only[chn,if_neg h]at a;exact a
 simp at h;have R:chn r2 (λd=>Zat d tmpB)=Zat r2.1 tmpB:=by unfold chn;rw[if_pos h]
 rw[R]at a;refine Cl.of (Zu4 r2.1 (L.ok K) tmpB) ⟨_,_,_,_,_,rfl,?_⟩;have T:=Zin (s:=tmpB) K;have U:Good (Zat r2.1 tmpB).1:=Int.le_trans Zmd L;generalize Zat r2.1 tmpB=r3 at*;refine Zaa (λh=>?_) (λh=>?_)
 .simp at h;simp only[chn,if_neg h]at a;exact a
 simp at h;have c3:chn r3 (λd=>Zbh d tmpB (snNm b))=Zbh r3.1 tmpB (snNm b):=by unfold chn;rw[if_pos h]
 rw[c3]at a;refine Cl.of (nname_fn b) ⟨_,rfl,?_⟩;rw[if_pos N];exact Cl.of (Zxy r3.1 (U.ok T) tmpB (snNm b)) ⟨_,_,_,_,_,rfl,a⟩
def Zd5:fnB tmpB=true:=by decide+kernel
def er_tmp(h:d.P)(a:d.dn=false):d.er tmpB tmpB=0:=Zb7.2 ⟨h,a,Zd5,Zd5⟩
def usedL_get(h:d.get s=some f):f.len<=usedL d.fs:=by
 unfold DiD.get at h;exact Ze6 (List.mem_of_find?_eq_some h)
def fs_pos(h:d.get s=some f):0<d.fs.length:=by
 unfold DiD.get at h;exact List.length_pos_of_mem (List.mem_of_find?_eq_some h)
def stP_q(h:g.P):inQ g.q:=⟨h.1.2.1,h.1.2.2.1⟩
def nsave_fn(d:DiD)(i:d.ok)(s:StD):Ct prog 104 {} [d.sv,s.sv] (λr=>r=[(saveD d s).1.sv,I (saveD d s).2]):=by
 refine nsave_nf (Cl.of (Zd6 d i) ⟨_,rfl,Zaa (λh=>?_) (λh=>?_)⟩)
 .simp at h;simp[saveD,h]
 simp at h;have m:Good d:=i.2.2;refine Cl.of (Zib s) ⟨_,rfl,Zaa (λa=>?_) (λa=>?_)⟩
 .simp at a;simp[saveD,a]
 simp at a;refine Zaa (λg=>by simp[saveD,h,a,g]) (λg=>Cl.of (nenc_fn s) ?_);rw[if_pos a];have x:=snB_len a;have n:=snU_len s;have A:=h.2.1;have y:=h.1;refine⟨_,_,rfl,Zaa (λh=>by simp at h) (λ_=>Cl.of (Zkw d i) ⟨_,rfl,Cl.of (Zov d i tmpB) ⟨_,_,rfl,?_⟩⟩)⟩;have er:=er_tmp h g;have o:rlen (fR d.fs)=d.fs.length:=(by simp[rlen]);have p:rlen (bR (snB s))=(snU s).length:=by rw[n];simp[rlen]
 have sv:saveD d s=if d.rm+oldN d<usedL d.fs+(snU s).length\/64<d.fs.length+newF d then(d,13)else chn (rmT d) λd=>mkT d (snU s) s.q:=(by unfold saveD;rw[if_neg (by simp[h,a]),if_neg (by simp[g])]);rw[o,p,snU_row]
 cases hget:d.get tmpB with
 |some f=>
  have k:Ze4 d tmpB=(f.su++f.lo,0):=(by unfold Ze4;rw[er,hget];rfl);have c:oldN d=f.len:=(by unfold oldN;rw[hget]);have e:newF d=0:=(by unfold newF;rw[hget]);have l:rmT d=Zae d tmpB:=(by unfold rmT;rw[hget]);have z:=usedL_get hget;have u:=fs_pos hget;have t:rlen (uR (f.su++f.lo))=f.len:=(by simp[rlen,FiD.len]);rw[k];refine Zaa (λ_=>?_) (λh=>by simp at h);rw[t,Zar,Zab,Zar,Zab];rw[c,e]at sv;refine Zaa (λb=>?_) (λb=>?_)
  .simp only[bor_t,igt,decide_eq_true_eq]at b;rw[if_pos Vo]at sv;rw[sv]
  .simp only[bor_f,igt,decide_eq_false_iff_not]at b;rw[if_neg Vo,l]at sv;refine Zaa (λ_=>?_) (λh=>by simp at h);refine Cl.of (Zgp d i tmpB) ⟨_,_,_,_,_,rfl,?_⟩;have v:=Zgx (s:=tmpB) h;have w:Good (Zae d tmpB).1:=Int.le_trans Zhn m;generalize Zae d tmpB=r1 at*;refine Zaa (λj=>?_) (λj=>?_)
   .simp at j;have:saveD d s=r1:=by rw[sv];unfold chn;rw[if_neg j]
    rw[this]
   .simp at j;have:saveD d s=mkT r1.1 (snU s) s.q:=by rw[sv];unfold chn;rw[if_pos j]
    exact mkT_fn r1.1 v w (snU s) Vo s.q (stP_q a) (λr=>r=[(saveD d s).1.sv,I (saveD d s).2]) (by rw[this])
 |none=>
  have k:Ze4 d tmpB=([],14):=(by unfold Ze4;rw[er,hget];rfl);have c:oldN d=0:=(by unfold oldN;rw[hget]);have e:newF d=1:=(by unfold newF;rw[hget]);have l:rmT d=(d,0):=(by unfold rmT;rw[hget]);rw[k];refine Zaa (λh=>by simp at h) (λ_=>?_);rw[Zab,Zab];rw[c,e]at sv;refine Zaa (λb=>?_) (λb=>?_)
  .simp only[bor_t,igt,decide_eq_true_eq]at b;rw[if_pos Vo]at sv;rw[sv]
  .simp only[bor_f,igt,decide_eq_false_iff_not]at b;rw[if_neg Vo,l]at sv;refine Zaa (λh=>by simp at h) (λ_=>?_);have:saveD d s=mkT d (snU s) s.q:=by rw[sv];rfl
   exact mkT_fn d h m (snU s) Vo s.q (stP_q a) (λr=>r=[(saveD d s).1.sv,I (saveD d s).2]) (by rw[this])
def isF(f:FiD)(t:StD):Prop:=t.P/\f.nm=snNm t.q/\f.su++f.lo=snU t
def Cand(l:List FiD)(t:StD):Prop:=∃f∈l,isF f t
def Best(l:List FiD)(o:Option StD):Prop:=match o with|none=>∀t,¬Cand l t|some s=>Cand l s/\∀t,Cand l t->t.q<=s.q
def NewR(d:DiD)(s:StD)(e:Int):Prop:=
 (¬d.P/\s=st0/\e=1)\/(d.P/\d.dn=true/\s=st0/\e=16)\/(d.P/\d.dn=false/\((e=0/\Best d.fs (some s))\/(e=14/\s=st0/\Best d.fs none)))
def cand_uniq{l:List FiD}(c:srt FiD.nm l){a b:StD}(d:Cand l a)(h:Cand l b)(e:a.q=b.q):a=b:=by
 obtain⟨f,i,j,k,m⟩:=d;obtain⟨g,n,o,p,r⟩:=h;have:f=g:=Zmj c i n (by rw[k,p,e]);subst this;exact Zpb j o (by rw[<-snU_i,<-snU_i,<-m,<-r])
def best_uniq{l:List FiD}(e:srt FiD.nm l){a b:StD}(c:Best l (some a))(d:Best l (some b)):a=b:=
 cand_uniq e c.1 d.1 (Int.le_antisymm (d.2 a c.1) (c.2 b d.1))
def Zf7{l:List FiD}{f:FiD}{t:StD}:Cand (l++[f]) t↔Cand l t\/isF f t:=by
 unfold Cand;constructor
 .rintro⟨g,a,h⟩
  rcases List.mem_append.1 a with a|a
  .exact .inl ⟨g,a,h⟩
  .simp at a;subst a;exact .inr h
 .rintro(⟨g,a,h⟩|h)
  .exact⟨g,by simp[a],h⟩
  .exact⟨f,Vs,h⟩
def Zrm{o:Option StD}(h:Best y o)(b:∀t,isF f t->∃s,o=some s/\t.q<=s.q):Best (y++[f]) o:=by
 cases o with
 |none=>
  intro t a
  rcases Zf7.1 a with a|a
  .exact h t a
  .obtain⟨s,e,_⟩:=b t a;cases e
 |some s=>
  refine⟨Zf7.2 (.inl h.1),λt a=>?_⟩
  rcases Zf7.1 a with a|a
  .exact h.2 t a
  .obtain⟨d,e,c⟩:=b t a;cases e;exact c
def Zrn{l:List FiD}{f:FiD}{o:Option StD}{s:StD}(h:Best l o)(b:isF f s)(c:∀t,o=some t->t.q<s.q):Best (l++[f]) (some s):=by
 refine⟨Zf7.2 (.inr b),λt a=>?_⟩
 rcases Zf7.1 a with a|a
 .cases o with
  |none=>exact absurd a (h t)
  |some u=>have:=h.2 t a;have:=c u rfl;omega
 .have e:t=s:=Zpb a.1 b.1 (by rw[<-snU_i,<-snU_i,<-a.2.2,<-b.2.2]);rw[e];exact Int.le_refl _
def Hold(o:Option StD)(l:LL)(q t:Int):Prop:=match o with
 |none=>q= -1
 |some s=>l=coR s.cs/\q=s.q/\t=s.t/\s.P
def Zwb(h:d.P)(a:n<d.fs.length):(d.fs[n].su++d.fs[n].lo).length<=65536:=by
 have b:=h.1;have c:=h.2.1;have:=Ze6 (List.getElem_mem a);unfold FiD.len at this;rw[List.length_append];omega
def get_at(h:d.P)(a:n<d.fs.length):d.get d.fs[n].nm=some d.fs[n]:=(get_iff h.2.2.2).2 ⟨List.getElem_mem a,rfl⟩
def isF_of{f:FiD}{s:StD}{n e:Int}(a:SnD (iU (f.su++f.lo)) s e)(b:e=0)(c:NumR f.nm n true)(d:s.q=n):isF f s:=by
 subst b
 rcases a with⟨g,i,_⟩|⟨_,_,h⟩
 .refine⟨g,?_,(snU_iff.1 i).symm⟩
  rcases c with⟨q,_,e,rfl,_⟩|⟨_,_,e⟩
  .rw[d];exact e
  .cases e
 .exact absurd h.symm (Zvs _)
def isF_num(h:isF f g)(d:NumR f.nm i o):o=true/\i=g.q:=by
 have c:=stP_q h.1
 rcases d with⟨q,a,e,rfl,rfl⟩|⟨a,_,_⟩
 .exact⟨rfl,Zk0 a c (e.symm.trans h.2.1)⟩
 .exact absurd h.2.1 (a _ c)
def isF_dec{f:FiD}{t s:StD}{e:Int}(h:isF f t)(c:SnD (iU (f.su++f.lo)) s e):e=0/\s=t:=by
 have b:snB t=iU (f.su++f.lo):=snU_iff.2 h.2.2.symm
 rcases c with⟨a,d,g⟩|⟨a,_,_⟩
 .exact⟨g,Zpb a h.1 (d.trans b.symm)⟩
 .exact absurd b (a t h.1)
def nnew_fn(d:DiD)(D:d.ok):Ct prog 113 {} [d.sv] (λr=>∃s e,r=[StD.sv s,I e]/\NewR d s e):=by
 refine nnew_nf (Cl.of (Zd6 d D) ⟨_,rfl,Zaa (λh=>?_) (λh=>?_)⟩)
 .simp at h;exact⟨st0,1,rfl,.inl ⟨h,rfl,rfl⟩⟩
 simp at h;refine Zaa (λg=>⟨st0,16,rfl,.inr (.inl ⟨h,g,rfl,rfl⟩)⟩) (λg=>?_);have P:=h.1.1;refine Cl.of (Zpq d Vo) ⟨_,rfl,?_⟩;have F:rlen (nR (d.fs.map FiD.nm))=d.fs.length:=(by simp[rlen]);rw[F];refine⟨λx y c z=>0<=x/\x<=d.fs.length/\∃o,Best (d.fs.take x.toNat) o/\Hold o y c z,λx _ _ _=>(d.fs.length-x).toNat,⟨Vo,Vo,none,(by rintro t ⟨f,A,_⟩;simp at A),rfl⟩,?_⟩;rintro x y c z ⟨x0,hx,o,hb,hh⟩
 have R: -1<=c:=by
  cases o with
  |none=>have:c= -1:=hh;omega
  |some s=>obtain⟨_,e,_,p⟩:=hh;have:=(stP_q p).1;omega
 have w:x<d.fs.length->wadd IntKind.i64 x 1=x+1:=λ_=>Zab;refine Zaa (λk=>?_) (λk=>?_)
 .simp at k;have a:x.toNat<d.fs.length:=Vo;have i:d.fs.take (x+1).toNat=d.fs.take x.toNat++[d.fs[x.toNat]]:=by rw[show(x+1).toNat=x.toNat+1 by omega,List.take_succ_eq_append_getElem a]
  have skip:(∀t,isF d.fs[x.toNat] t->∃s,o=some s/\t.q<=s.q)->0<=x+1/\x+1<=d.fs.length/\∃o,Best (d.fs.take (x+1).toNat) o/\Hold o y c z:=λA=>
   ⟨Vo,Vo,o,by rw[i];exact Zrm hb A,hh⟩
  have C:Nl (d.fs.length-(x+1)).toNat (d.fs.length-x).toNat:=mlt Vo;rw[w k];refine⟨⟨x0,k⟩,d.fs[x.toNat].nm,by simp[rget,a],Cl.ofQ (nnum_fn _) ?_⟩;rintro r ⟨n,b,rfl,hn⟩;refine⟨_,_,rfl,Zaa (λl=>⟨rfl,skip λt m=>?_,C⟩) (λl=>?_)⟩
  .obtain⟨E,Q⟩:=isF_num m hn;subst E;have G:n<=c:=by simpa using l
   cases o with
   |none=>have:c= -1:=hh;have:=(stP_q m.1).1;omega
   |some s=>obtain⟨_,e,_,_⟩:=hh;exact⟨s,rfl,Vo⟩
  .rw[bor_f]at l;have H:b=true:=(by simpa using l.1);subst H;have G:c<n:=by have:=l.2;simp at this;omega
   have er:d.er d.fs[x.toNat].nm d.fs[x.toNat].nm=0:=Zb7.2 ⟨h,g,h.2.2.1 _ (List.getElem_mem a),h.2.2.1 _ (List.getElem_mem a)⟩;have J:Ze4 d d.fs[x.toNat].nm=(d.fs[x.toNat].su++d.fs[x.toNat].lo,0):=(by unfold Ze4;rw[er,get_at h a];rfl);refine Cl.of (Zov d D _) ⟨_,_,rfl,?_⟩;rw[J];refine Zaa (λh=>by simp at h) (λ_=>?_);have K:=Zwb h a;have v:=ndec_fn (iU (d.fs[x.toNat].su++d.fs[x.toNat].lo)) (by simp at K|-;omega) (iU_byts _);rw[<-uR_bR]at v;refine Cl.ofQ v ?_;rintro r ⟨s,e,rfl,hs⟩;refine⟨_,_,_,_,rfl,Zaa (λu=>⟨rfl,⟨Vo,Vo,some s,?_,rfl,rfl,rfl,?_⟩,C⟩) (λu=>⟨rfl,skip λt m=>?_,C⟩)⟩
   .have j:e=0/\s.q=n:=by
     by_cases e0:e=0
     .exact⟨e0,by simpa[e0]using u⟩
     .simp[e0]at u
    rw[i];refine Zrn hb (isF_of hs j.1 hn j.2) λt L=>?_;subst L;obtain⟨_,e1,_,_⟩:=hh;omega
   .have j:e=0:=by
     by_cases e0:e=0
     .exact e0
     .simp[e0]at u
    rcases hs with⟨p,_,_⟩|⟨_,_,p⟩
    .exact p
    .exact absurd (p.symm.trans j) (Zvs _)
   .exfalso;obtain⟨M,N⟩:=isF_dec m hs;obtain⟨_,O⟩:=isF_num m hn;subst M N O;simp at u
 .simp at k;have i:d.fs.take x.toNat=d.fs:=List.take_of_length_le Vo;rw[i]at hb
  cases o with
  |none=>have:c= -1:=hh;subst this;exact Zaa (λ_=>⟨st0,14,rfl,.inr (.inr ⟨h,g,.inr ⟨rfl,rfl,hb⟩⟩)⟩) (λh=>by simp at h)
  |some s=>obtain⟨rfl,rfl,rfl,p⟩:=hh;have:=(stP_q p).1;exact Zaa (λh=>by simp at h;omega) (λ_=>⟨s,0,rfl,.inr (.inr ⟨h,g,.inl ⟨rfl,hb⟩⟩)⟩)
def Zgz(e:DiD)(a:List FiD):(e.st=0/\e.perf a=({e with dn:=true},16))\/(e.st≠0/\e.perf a=({e.tick with fs:=a},0)):=by
 unfold DiD.perf;by_cases h:e.st=0
 .exact .inl ⟨h,by rw[if_pos h]⟩
 .exact .inr ⟨h,by rw[if_neg h]⟩
def Zit(h:d.st= -1):d.tick.st= -1:=by unfold DiD.tick;simp[h]
def snNm_ne(q:Int):snNm q≠tmpB:=by
 intro e;have:=congrArg (λs:BA=>s.data.toList.length) e;simp only[Zcr]at this;simp[Zcv]at this
def fchr_dig{c:UInt8}(h:isD c):fchr c=true:=by
 unfold isD at h;unfold fchr;rw[decide_eq_true_eq];omega
def snNm_fn(q:Int):fnB (snNm q)=true:=by
 unfold fnB;have b:(snNm q).size=15:=by rw[Zcw,Zcr];simp[Zcv]
 rw[b,Zcr];simp only[Bool.and_eq_true,decide_eq_true_eq,List.all_append];refine⟨Vo,by decide+kernel,?_⟩;rw[List.all_eq_true];exact λc a=>fchr_dig (Zp4 _ _ c a)
def Eqv(a b:List FiD):Prop:=∀f:FiD,f.nm≠tmpB->(f∈a↔f∈b)
theorem Eqv.refl(a:List FiD):Eqv a a:=λ_ _=>Iff.rfl
def eqv_wout(l:List FiD):Eqv (wout FiD.nm l tmpB) l:=λf a=>by rw[Zbl];exact⟨λh=>h.1,λh=>⟨h,a⟩⟩
def eqv_withB(l:List FiD)(a b:List UInt8):Eqv (withB FiD.nm (wout FiD.nm l tmpB) ⟨tmpB,a,b⟩) l:=λf c=>by
 rw[Zcb,Zbl];constructor
 .rintro(rfl|⟨⟨h,_⟩,_⟩)
  .exact absurd rfl c
  .exact h
 .exact λh=>.inr ⟨⟨h,c⟩,c⟩
def isF_ne(h:isF f g):f.nm≠tmpB:=by rw[h.2.1];exact snNm_ne _
def Zzd(l:List FiD)(s:BA):wout FiD.nm (wout FiD.nm l s) s=wout FiD.nm l s:=Zd7 λf a=>(Zbl.1 a).2
def Zze(h:d.P):usedL (wout FiD.nm d.fs tmpB)+oldN d=usedL d.fs/\(wout FiD.nm d.fs tmpB).length+1=d.fs.length+newF d:=by
 unfold oldN newF
 rcases d.get_cases tmpB with⟨e1,e2,a⟩|⟨i,hi,e2,e1,a⟩
 .rw[e1,Zd7 a];exact⟨rfl,rfl⟩
 .rw[e1];have:=Zjl h.2.2.2 hi;rw[a]at this;have b:=Zzc h.2.2.2 hi;rw[a]at b;have c:(wout FiD.nm d.fs tmpB).length=d.fs.length-1:=by rw[b,List.length_eraseIdx];simp[hi]
  refine⟨this,?_⟩;show _+1=d.fs.length+0;omega
def Zzf(l:List FiD)(f:FiD):usedL (withB FiD.nm l f)=usedL (wout FiD.nm l f.nm)+f.len:=Zgu
def Zt0(h:d.P){a b:List UInt8}(c:srt FiD.nm y)(e:d.fs=withB FiD.nm y ⟨tmpB,a,b⟩):d.get tmpB=some ⟨tmpB,a,b⟩:=Zr0 (f:=⟨tmpB,a,b⟩) c e
def er_ok(h:d.P)(c:d.dn=false)(e:fnB s=true)(f:fnB t=true):d.er s t=0:=Zb7.2 ⟨h,c,e,f⟩
def Zgb(s:StD):FiD:=⟨snNm s.q,snU s,[]⟩
inductive SaveR(d:DiD)(s:StD):DiD×Int->Prop
 |full (h:d.rm+oldN d<usedL d.fs+(snU s).length\/64<d.fs.length+newF d):SaveR d s (d,13)
 |down (x:DiD) (hp:x.P) (hst:d.st≠-1) (he:Eqv x.fs d.fs) (hg:Good d->Good x):SaveR d s (x,16)
 |ok (x:DiD) (hp:x.P) (hd:x.dn=false) (hst:d.st= -1->x.st= -1) (hrm:x.rm=d.rm) (hf:x.fs=withB FiD.nm (wout FiD.nm d.fs tmpB) (Zgb s)) (hg:Good d->Good x):SaveR d s (x,0)
def Zzg{d:DiD}(k:d.P)(n:d.dn=false){s:StD}(O:s.P):SaveR d s (saveD d s):=by
 have sv:saveD d s=if d.rm+oldN d<usedL d.fs+(snU s).length\/64<d.fs.length+newF d then(d,13)else chn (rmT d) λd=>mkT d (snU s) s.q:=(by unfold saveD;rw[if_neg (by simp[k,O]),if_neg (by simp[n])]);by_cases hc:d.rm+oldN d<usedL d.fs+(snU s).length\/64<d.fs.length+newF d
 .rw[sv,if_pos hc];exact .full hc
 rw[if_neg hc]at sv;rw[sv];obtain⟨hu,hn⟩:=Zze k;have l:srt FiD.nm (wout FiD.nm d.fs tmpB):=srt_wout k.2.2.2;have X:=k.1.2.2.2;generalize hW:wout FiD.nm d.fs tmpB=W at*;have Y:Eqv W d.fs:=by rw[<-hW];exact eqv_wout _
 have v:∀a b,Eqv (withB FiD.nm W ⟨tmpB,a,b⟩) d.fs:=λa b=>by rw[<-hW];exact eqv_withB _ a b
 have r:wout FiD.nm W tmpB=W:=(by rw[<-hW];exact Zzd _ _);have E:∀a b t u,withB FiD.nm (withB FiD.nm W ⟨tmpB,a,b⟩) ⟨tmpB,t,u⟩=withB FiD.nm W ⟨tmpB,t,u⟩:=λa b t u=>Zfo rfl;have Z:∀a b,wout FiD.nm (withB FiD.nm W ⟨tmpB,a,b⟩) tmpB=W:=λa b=>by rw[Znz W ⟨tmpB,a,b⟩];exact r
 have first:(∃x,rmT d=(x,16)/\x.P/\d.st≠-1/\Eqv x.fs d.fs/\(Good d->Good x))\/∃x,rmT d=(x,0)/\x.P/\x.dn=false/\(d.st= -1->x.st= -1)/\x.rm=d.rm/\x.fs=W/\(Good d->Good x):=by
  unfold rmT
  cases hg:d.get tmpB with
  |none=>refine .inr ⟨d,rfl,k,n,λh=>h,rfl,?_,λh=>h⟩;rw[<-hW];exact(Zd7 (get_none hg)).symm
  |some f=>
   have c:=Zgx (s:=tmpB) k;have g:Good d->Good (Zae d tmpB).1:=λh=>Int.le_trans Zhn h;have e:Zae d tmpB=d.perf W:=(by unfold Zae;rw[er_ok k n Zd5 Zd5,hg,hW];rfl);rw[e]at c g
   dsimp only
   rw[e]
   rcases Zgz d W with⟨j,i⟩|⟨j,i⟩<;>rw[i]at c g|-
   .exact .inl ⟨_,rfl,c,Vo,Eqv.refl _,g⟩
   .exact .inr ⟨_,rfl,c,n,λh=>Zit h,rfl,rfl,g⟩
 rcases first with⟨x,e,Q,R,T,U⟩|⟨d1,e,p1,n1,t1,r1,f1,g1⟩
 .have:chn (rmT d) (λd=>mkT d (snU s) s.q)=(x,16):=(by rw[e];rfl);rw[this];exact .down x Q R T U
 have:chn (rmT d) (λd=>mkT d (snU s) s.q)=mkT d1 (snU s) s.q:=(by rw[e];rfl);rw[this];unfold mkT
 have c:=Zgv (s:=tmpB) p1;have g:Good d->Good (Za3 d1 tmpB).1:=λh=>Int.le_trans Zhl (g1 h)
 have w:d1.get tmpB=none:=by
  cases hg:d1.get tmpB with
  |none=>rfl
  |some f=>exfalso;obtain⟨D,V⟩:=(get_iff p1.2.2.2).1 hg;rw[f1,<-hW]at D;exact(Zbl.1 D).2 V
 have e:Za3 d1 tmpB=d1.perf (withB FiD.nm W ⟨tmpB,[],[]⟩):=(by unfold Za3;rw[er_ok p1 n1 Zd5 Zd5,w,f1];simp only[ne_eq,not_true_eq_false,if_false];rw[if_neg Vo]);rw[e]at c g|-
 rcases Zgz d1 (withB FiD.nm W ⟨tmpB,[],[]⟩)with⟨j,i⟩|⟨j,i⟩<;>rw[i]at c g|-
 .exact .down _ c (λh=>by have:=t1 h;omega) (by rw[show({d1 with dn:=true}:DiD).fs=W from f1];exact Y) g
 have F:d.st= -1->({d1.tick with fs:=withB FiD.nm W ⟨tmpB,[],[]⟩}:DiD).st= -1:=λh=>Zit (t1 h);have G:({d1.tick with fs:=withB FiD.nm W ⟨tmpB,[],[]⟩}:DiD).dn=false:=n1;have r2:({d1.tick with fs:=withB FiD.nm W ⟨tmpB,[],[]⟩}:DiD).rm=d.rm:=r1;have y:({d1.tick with fs:=withB FiD.nm W ⟨tmpB,[],[]⟩}:DiD).fs=withB FiD.nm W ⟨tmpB,[],[]⟩:=rfl;have o:=c;have H:=g
 dsimp only at o H
 generalize({d1.tick with fs:=withB FiD.nm W ⟨tmpB,[],[]⟩}:DiD)=d2 at*;have m:chn (d2,0) (λd=>Zap d tmpB (snU s))=Zap d2 tmpB (snU s):=rfl;rw[m]
 have c:=Zgw (s:=tmpB) (x:=snU s) o;have g:Good d->Good (Zap d2 tmpB (snU s)).1:=λh=>Int.le_trans Zhm (H h);have a0:usedL d2.fs=usedL W:=(by rw[y,Zzf,r];simp[FiD.len]);have e:Zap d2 tmpB (snU s)=if d2.st=0 then({d2 with dn:=true,fs:=withB FiD.nm W ⟨tmpB,[],snU s⟩},16)else({d2.tick with fs:=withB FiD.nm W ⟨tmpB,[],snU s⟩},0):=(by unfold Zap;rw[er_ok o G Zd5 Zd5,Zt0 o l y];simp only[ne_eq,not_true_eq_false,if_false];rw[if_neg Vo,y,E];rfl);rw[e]at c g|-;by_cases j:d2.st=0
 .simp only[if_pos j]at c g|-;exact .down _ c (λh=>by have:=F h;omega) (v _ _) g
 simp only[if_neg j]at c g|-;have J:d.st= -1->({d2.tick with fs:=withB FiD.nm W ⟨tmpB,[],snU s⟩}:DiD).st= -1:=λh=>Zit (F h);have K:({d2.tick with fs:=withB FiD.nm W ⟨tmpB,[],snU s⟩}:DiD).dn=false:=G;have r3:({d2.tick with fs:=withB FiD.nm W ⟨tmpB,[],snU s⟩}:DiD).rm=d.rm:=r2;have z:({d2.tick with fs:=withB FiD.nm W ⟨tmpB,[],snU s⟩}:DiD).fs=withB FiD.nm W ⟨tmpB,[],snU s⟩:=rfl;have A:=c;have g3:=g;generalize({d2.tick with fs:=withB FiD.nm W ⟨tmpB,[],snU s⟩}:DiD)=d3 at*;have m:chn (d3,0) (λd=>Zat d tmpB)=Zat d3 tmpB:=rfl;rw[m]
 have c:=Zin (s:=tmpB) A;have g:Good d->Good (Zat d3 tmpB).1:=λh=>Int.le_trans Zmd (g3 h);have e:Zat d3 tmpB=d3.perf (withB FiD.nm W ⟨tmpB,snU s,[]⟩):=(by unfold Zat;rw[er_ok A K Zd5 Zd5,Zt0 A l z];simp only[ne_eq,not_true_eq_false,if_false];rw[z,E];rfl);rw[e]at c g|-
 rcases Zgz d3 (withB FiD.nm W ⟨tmpB,snU s,[]⟩)with⟨j,i⟩|⟨j,i⟩<;>rw[i]at c g|-
 .exact .down _ c (λh=>by have:=J h;omega) (by rw[show({d3 with dn:=true}:DiD).fs=_ from z];exact v _ _) g
 have L:d.st= -1->({d3.tick with fs:=withB FiD.nm W ⟨tmpB,snU s,[]⟩}:DiD).st= -1:=λh=>Zit (J h);have M:({d3.tick with fs:=withB FiD.nm W ⟨tmpB,snU s,[]⟩}:DiD).dn=false:=K;have r4:({d3.tick with fs:=withB FiD.nm W ⟨tmpB,snU s,[]⟩}:DiD).rm=d.rm:=r3;have C:({d3.tick with fs:=withB FiD.nm W ⟨tmpB,snU s,[]⟩}:DiD).fs=withB FiD.nm W ⟨tmpB,snU s,[]⟩:=rfl;have p:=c;have N:=g
 dsimp only at p N
 generalize({d3.tick with fs:=withB FiD.nm W ⟨tmpB,snU s,[]⟩}:DiD)=d4 at*;have m:chn (d4,0) (λd=>Zbh d tmpB (snNm s.q))=Zbh d4 tmpB (snNm s.q):=rfl;rw[m]
 have c:=Zza (a:=tmpB) (b:=snNm s.q) p;have g:Good d->Good (Zbh d4 tmpB (snNm s.q)).1:=λh=>Int.le_trans Ztq (N h);have e:Zbh d4 tmpB (snNm s.q)=d4.perf (withB FiD.nm W (Zgb s)):=(by unfold Zbh;rw[er_ok p M Zd5 (snNm_fn _),Zt0 p l C];simp only[ne_eq,not_true_eq_false,if_false];rw[C,Z];rfl);rw[e]at c g|-
 rcases Zgz d4 (withB FiD.nm W (Zgb s))with⟨j,i⟩|⟨j,i⟩<;>rw[i]at c g|-
 .exact .down _ c (λh=>by have:=L h;omega) (by rw[show({d4 with dn:=true}:DiD).fs=_ from C];exact v _ _) g
 .exact .ok _ c M (λh=>Zit (L h)) r4 (by rw[hW]) g
def Zwp{l:List FiD}{s t:StD}(a:s.P):Cand (withB FiD.nm (wout FiD.nm l tmpB) (Zgb s)) t↔t=s\/(Cand l t/\t.q≠s.q):=by
 constructor
 .rintro⟨f,b,k⟩
  rcases Zcb.1 b with rfl|⟨h1,h2⟩
  .refine .inl (Zpb k.1 a ?_);have:snU s=snU t:=by have:=k.2.2;simpa[Zgb]using this
   rw[<-snU_i,<-snU_i,this]
  .refine .inr ⟨⟨f,(Zbl.1 h1).1,k⟩,λe=>h2 ?_⟩;rw[k.2.1,e];rfl
 .rintro(rfl|⟨⟨f,b,k⟩,hq⟩)
  .exact⟨Zgb t,Zcb.2 (.inl rfl),a,rfl,by simp[Zgb]⟩
  .refine⟨f,Zcb.2 (.inr ⟨Zbl.2 ⟨b,isF_ne k⟩,λe=>hq ?_⟩),k⟩;rw[k.2.1]at e;exact Zk0 (stP_q k.1) (stP_q a) e
def Zwq{o:Option StD}(b:g.P)(h:Best y o)(c:∀w,o=some w->w.q<=g.q):Best (withB FiD.nm (wout FiD.nm y tmpB) (Zgb g)) (some g):=by
 refine⟨(Zwp b).2 (.inl rfl),λt a=>?_⟩
 rcases(Zwp b).1 a with rfl|⟨a,_⟩
 .exact Int.le_refl _
 .cases o with
  |none=>exact absurd a (h t)
  |some w=>have:=h.2 t a;have:=c w rfl;omega
end Snp
namespace Jou
open Go Go.Px Go.Proofs Cod Seg Tryz
theorem rdO_uniq{l:List Int}{d i:Sc}{q f:Int}(h:RdO l d q)(b:RdO l i f):d=i/\q=f:=by
 have t:=h.far b.ok b.pre;have u:=b.far h.ok h.pre;have v:=Beg.len b.ok h.ok t;have x:=Beg.len h.ok b.ok u;have e:i=d:=v.2 Vo;subst e;refine⟨rfl,?_⟩
 rcases h.ext with⟨w,k,p,n,r,c,rfl⟩|⟨k,p,n,c,ht,rfl⟩
 .rcases b.ext with⟨s,j,m,o,g,a,rfl⟩|⟨j,m,o,a,ht',rfl⟩
  .rw[c]at a;simp only[Prod.mk.injEq]at a;rw[a.1]
  .rw[c]at a;simp only[Prod.mk.injEq]at a;exact absurd a.1 r
 .rcases b.ext with⟨s,j,m,o,g,a,rfl⟩|⟨j,m,o,a,ht',rfl⟩
  .rw[c]at a;simp only[Prod.mk.injEq]at a;exact absurd a.1.symm g
  .rfl
def addS(d:Sc)(e:EvD):Sc:={d with ev:=d.ev++[e],s:=e.s,a:=e.a,m:=bhdN d.m e.c}
def recB(d:Sc)(e:EvD):List Int:=fr 2 (encL d.s d.a d.m e)
def Zz8{e:EvD}(h:ScOK D)(b:D.num≠0)(k:D.sl=false)(ok:EncOK D.s D.a D.m e):ScOK (addS D e)/\segL (addS D e)=segL D++recB D e:=by
 have g:=h.fin b;simp only[Y07]at g;obtain⟨n,o,p⟩:=g;have i:(fin3 D.bs D.ba [] D.ev).1=D.s:=n.symm;have j:(fin3 D.bs D.ba [] D.ev).2.1=D.a:=o.symm;have f:(fin3 D.bs D.ba [] D.ev).2.2=D.m:=p.symm;refine⟨⟨λl=>absurd l b,λ_=>h.head b,λ_=>?_,λ_=>?_⟩,?_⟩
 .show okL D.bs D.ba [] (D.ev++[e]);rw[Zox,i,j,f];exact⟨h.evs b,ok⟩
 .show(e.s,e.a,bhdN D.m e.c)=fin3 D.bs D.ba [] (D.ev++[e]);rw[Zlq,f]
 .rw[Zct (show(addS D e).num≠0 from b),Zct b];unfold slx addS recB;simp only[k,Bool.false_eq_true,if_false,List.append_nil];rw[Zlr,i,j,f,List.append_assoc]
def sealS(d:Sc):Sc:={d with sl:=true}
def seaB(d:Sc):List Int:=fr 3 (slP d.ev.length d.s d.a)
def Zut{d:Sc}(h:ScOK d)(a:d.num≠0)(b:d.sl=false):ScOK (sealS d)/\segL (sealS d)=segL d++seaB d:=by
 refine⟨⟨λc=>absurd c a,λ_=>h.head a,λ_=>h.evs a,λ_=>h.fin a⟩,?_⟩;rw[Zct (show(sealS d).num≠0 from a),Zct a];unfold slx sealS seaB;simp only[b,Bool.false_eq_true,if_false,if_true,List.append_nil,List.append_assoc]
def newS(n s a:Int)(e:EvD):Sc:=mkS n s a [e] false
def Zz9{e:EvD}(h:headOK i j k)(ok:EncOK j k [] e):ScOK (newS i j k e)/\segL (newS i j k e)=fr 1 (hdP i j k)++fr 2 (encL j k [] e):=by
 have b:i≠0:=(by have:=h.1.1;omega);refine⟨mkS_ok false h ⟨ok,trivial⟩,?_⟩;unfold newS;rw[segL_mk b];simp[recL]
end Jou
namespace Jou
open Go Go.Px Go.Proofs Cod Seg Sgr Snp Tryz
abbrev spre:List UInt8:=[115,101,103,46]
def segNm(n:Int):BA:=⟨(spre++dgs 8 n.toNat).toArray⟩
def inN(n:Int):Prop:=1<=n/\n<=99999999
instance (n:Int):Decidable (inN n):=inferInstanceAs (Decidable (_/\_))
theorem Zch(n:Int):(segNm n).data.toList=spre++dgs 8 n.toNat:=by simp[segNm]
def Zva{n:Int}(h:inN n):(vD ((segNm n).data.toList.drop 4):Int)=n:=by
 unfold inN at h;rw[Zch,show(spre++dgs 8 n.toNat).drop 4=dgs 8 n.toNat from rfl,Zr7 8 _ Vo];omega
def numS(s:BA):Int:=if inN (vD (s.data.toList.drop 4):Int)/\s=segNm (vD (s.data.toList.drop 4):Int)then(vD (s.data.toList.drop 4):Int)else 0
def Zvb{n:Int}(h:inN n):numS (segNm n)=n:=by
 unfold numS;rw[Zva h,if_pos ⟨h,rfl⟩]
def Zdb(h:numS s≠0):inN (numS s)/\s=segNm (numS s):=by
 unfold numS at h|-
 split
 next g=>exact g
 next g=>rw[if_neg g]at h;exact absurd rfl h
def lex_app:∀{a b:List UInt8} (x y:List UInt8),a.length=b.length->a<b->a++x<b++y
 | [],[],x,y,_,h=>absurd h (List.lt_irrefl _)
 | [],_::_,_,_,hl,_=>by simp at hl
 |_::_,[],_,_,hl,_=>by simp at hl
 |c::a,d::b,x,y,hl,h=>by
  rw[Y4,Y4,YI]
  rcases YI.1 h with h|⟨h1,h2⟩
  .exact .inl h
  .exact .inr ⟨h1,lex_app x y (by simpa using hl) h2⟩
def Zsu:∀(p:List UInt8) {a b:List UInt8},a<b->p++a<p++b
 | [],_,_,h=>h
 |c::p,a,b,h=>by rw[Y4,Y4,YI];exact .inr ⟨rfl,Zsu p h⟩
def dgs_lt:∀(k a b:Nat),a<b->b<10^k->dgs k a<dgs k b
 |0,a,b,h,hb=>by simp at hb;omega
 |k+1,a,b,h,hb=>by
  rw[dgs,dgs];by_cases e:a/10=b/10
  .rw[e];refine Zsu _ ?_;rw[YI]
   left
   rw[UInt8.lt_iff_toNat_lt];simp only[UInt8.toNat_ofNat'];omega
  .refine lex_app _ _ (by rw[Zcv,Zcv]) (dgs_lt k _ _ Vo ?_);rw[Nat.pow_succ]at hb;omega
def Zvc(c:inN i)(d:inN b)(h:i<b):nlt (segNm i) (segNm b):=by
 unfold nlt;rw[Zch,Zch];unfold inN at c d;exact Zsu _ (dgs_lt 8 _ _ Vo Vo)
structure Pt where
 d:Sc
 n:Nat
def foll(p a:Sc):Prop:=a.sl=true/\p.num=a.num+1/\p.bs=a.s/\p.ba=a.a
instance (p a:Sc):Decidable (foll p a):=inferInstanceAs (Decidable (_/\_))
def isSeg(f:FiD):Bool:=decide (numS f.nm≠0)
def segs(l:List FiD):List FiD:=l.filter isSeg
abbrev ptF(a:FiD->Sc)(f:FiD):Pt:=⟨a f,f.len⟩
def mayR(b:FiD->Sc)(r:List Pt)(o:List BA)(f:FiD):Prop:=o=[]/\(b f).num=numS f.nm/\(match r.getLast? with|none=>True|some a=>foll (b f) a.d)
instance (sc:FiD->Sc) (r:List Pt) (o:List BA) (f:FiD):Decidable (mayR sc r o f):=by
 unfold mayR
 cases r.getLast?<;>infer_instance
def rstep(b:FiD->Sc)(a:List Pt×List BA)(f:FiD):List Pt×List BA:=
 if numS f.nm=0 then a else if mayR b a.1 a.2 f then(a.1++[ptF b f],a.2)else(a.1,a.2++[f.nm])
def rowsD(a:FiD->Sc)(l:List FiD):List Pt×List BA:=l.foldl (rstep a) ([],[])
def Zcx(b:FiD->Sc):∀(l:List FiD) (a:List Pt×List BA),l.foldl (rstep b) a=(segs l).foldl (rstep b) a
 | [],a=>rfl
 |f::l,a=>by
  unfold segs;rw[List.foldl_cons,List.filter_cons];by_cases h:numS f.nm=0
  .have e:isSeg f=false:=(by unfold isSeg;simp[h]);rw[e,if_neg Vs,show rstep b a f=a from if_pos h];exact Zcx b l a
  .have e:isSeg f=true:=(by unfold isSeg;simp[h]);rw[e,if_pos rfl,List.foldl_cons];exact Zcx b l _
def inRow(b:FiD->Sc):Option Sc->List FiD->Prop
 |_,[]=>True
 |p,f::l=>(b f).num=numS f.nm/\(match p with|none=>True|some a=>foll (b f) a)/\inRow b (some (b f)) l
def Zsv(b:FiD->Sc):∀(l:List FiD) (r:List Pt),(∀f∈l,numS f.nm≠0)->inRow b (r.getLast?.map (·.d)) l->l.foldl (rstep b) (r,[])=(r++l.map (ptF b),[])
 | [],r,_,_=>Vs
 |f::l,r,hn,h=>by
  obtain⟨i,e,j⟩:=h;rw[List.foldl_cons]
  have k:mayR b r [] f:=by
   refine⟨rfl,i,?_⟩
   cases c:r.getLast? with
   |none=>trivial
   |some a=>rw[c]at e;exact e
  rw[show rstep b (r,[]) f=(r++[ptF b f],[])from by unfold rstep;rw[if_neg (hn f Vs),if_pos k]];rw[Zsv b l (r++[ptF b f]) (λg c=>hn g (by simp[c])) (by simpa using j)];simp
def Zoz(a:FiD->Sc):∀(l:List FiD) (r:List Pt) (o:List BA),o≠[]->((l.foldl (rstep a) (r,o)).2≠[])
 | [],r,o,h=>h
 |f::l,r,o,h=>by
  rw[List.foldl_cons];unfold rstep
  split
  .exact Zoz a l r o h
  .rw[if_neg (λq=>h q.1)];exact Zoz a l r _ Vs
def rows_in'(b:FiD->Sc):∀(l:List FiD) (r:List Pt),(∀f∈l,numS f.nm≠0)->(l.foldl (rstep b) (r,[])).2=[]->inRow b (r.getLast?.map (·.d)) l
 | [],r,_,_=>trivial
 |f::l,r,hn,h=>by
  rw[List.foldl_cons]at h;by_cases hm:mayR b r [] f
  .rw[show rstep b (r,[]) f=(r++[ptF b f],[])from by unfold rstep;rw[if_neg (hn f Vs),if_pos hm]]at h;obtain⟨_,i,e⟩:=hm;refine⟨i,?_,?_⟩
   .cases c:r.getLast? with
    |none=>trivial
    |some a=>rw[c]at e;exact e
   .have:=rows_in' b l (r++[ptF b f]) (λg c=>hn g (by simp[c])) h
    simpa using this
  .rw[show rstep b (r,[]) f=(r,[]++[f.nm])from by unfold rstep;rw[if_neg (hn f Vs),if_neg hm]]at h;exact absurd h (Zoz b l r _ Vs)
def Za8:∀f∈segs y,numS f.nm≠0:=λf a=>by
 have:=(List.mem_filter.1 a).2
 simpa[isSeg]using this
def rows_iff{a:FiD->Sc}:(rowsD a y).2=[]↔inRow a none (segs y):=by
 unfold rowsD;rw[Zcx];exact⟨λh=>rows_in' a _ [] Za8 h,λh=>by rw[Zsv a _ [] Za8 h]⟩
def Zo0{a:FiD->Sc}(h:inRow a none (segs y)):rowsD a y=((segs y).map (ptF a),[]):=by
 unfold rowsD;rw[Zcx,Zsv a _ [] Za8 h];simp
theorem withB_map(a:srt FiD.nm y)(b:∃g∈y,g.nm=f.nm):withB FiD.nm y f=y.map λg=>if g.nm=f.nm then f else g:=by
 obtain⟨g,c,e⟩:=b;obtain⟨i,d,rfl⟩:=List.mem_iff_getElem.1 c;rw[<-Zis a d e.symm];apply YO
 .simp
 grind [srt_inj]
theorem segs_map{g:FiD->FiD}(h:∀x,(g x).nm=x.nm):segs (y.map g)=(segs y).map g:=by
 unfold segs;rw[List.filter_map];congr 1;apply List.filter_congr
 grind [isSeg]
def Zpz(a:srt FiD.nm y)(b:∃g∈y,g.nm=f.nm):segs (withB FiD.nm y f)=(segs y).map λg=>if g.nm=f.nm then f else g:=by
 grind [withB_map,segs_map]
def Zr3{l a:List FiD}{g f:FiD}(c:srt FiD.nm l)(e:segs l=a++[g])(d:g.nm=f.nm):segs (withB FiD.nm l f)=a++[f]:=by
 have h:g∈l:=(List.mem_filter.1 (show g∈l.filter isSeg by rw[show l.filter isSeg=a++[g]from e];simp)).1;rw[Zpz c ⟨g,h,d⟩,e,List.map_append];congr 1
 .have b:srt FiD.nm (segs l):=Yu _ c;rw[e]at b;have i:=(List.pairwise_append.1 b).2.2
  conv=>rhs;rw[<-W5 a]
  apply List.map_congr_left
  simp_all[Zkb]
 .simp[d]
def Ze9(b:FiD->Sc):∀(l:List FiD) (p:Option Sc) (f:FiD),inRow b p (l++[f])↔inRow b p l/\(b f).num=numS f.nm/\(match(l.getLast?.map b).or p with|none=>True|some a=>foll (b f) a)
 | [],p,f=>by cases p<;>simp[inRow]
 |g::l,p,f=>by
  rw[Y4];show _/\_/\inRow b (some (b g)) (l++[f])↔(_/\_/\inRow b (some (b g)) l)/\_;rw[Ze9 b l (some (b g)) f]
  grind
def Ziv(a b:List FiD):segs (a++b)=segs a++segs b:=List.filter_append ..
def segs_new{l:List FiD}{f:FiD}(v:srt FiD.nm l)(hno:∀g∈l,g.nm≠f.nm)(m:numS f.nm≠0)(j:∀g∈segs l,numS g.nm<numS f.nm):segs (withB FiD.nm l f)=segs l++[f]:=by
 rw[Ze8 hno];have c:ahd FiD.nm l f.nm++bhd FiD.nm l f.nm=l:=Wp
 have k:segs (bhd FiD.nm l f.nm)=[]:=by
  apply YT.2;intro x n b;have o:x∈l:=by rw[<-c];exact List.mem_append.2 (.inr n)
  have q:numS x.nm≠0:=(by simpa[isSeg]using b);have C:=j x (List.mem_filter.2 ⟨o,b⟩);obtain⟨w,e1⟩:=Zdb q;obtain⟨A,e2⟩:=Zdb m;have s:nlt x.nm f.nm:=by rw[e1,e2];exact Zvc w A C
  have d:∀y∈bhd FiD.nm l f.nm,¬nlt y.nm f.nm:=by
   intro y a h;have i:srt FiD.nm (bhd FiD.nm l f.nm):=by have:=v;rw[<-c]at this;exact(List.pairwise_append.1 this).2.1
   cases hbb:bhd FiD.nm l f.nm with
   |nil=>rw[hbb]at a;cases a
   |cons z r=>
    have t:¬nlt z.nm f.nm:=by
     have:=List.head?_dropWhile_not (p:=λg:FiD=>decide (nlt g.nm f.nm)) l;unfold bhd at hbb;rw[hbb]at this
     simpa using this
    rw[hbb]at a i
    rcases List.mem_cons.1 a with rfl|a
    .exact t h
    .have D:nlt z.nm y.nm:=(List.pairwise_cons.1 i).1 y a;exact t (Y04 D h)
  exact d x n s
 have e:segs l=segs (ahd FiD.nm l f.nm):=by
  conv=>lhs;rw[<-c,Ziv,k,List.append_nil]
 show segs (ahd FiD.nm l f.nm++f::bhd FiD.nm l f.nm)=_;rw[Ziv,e];congr 1
 show segs (f::bhd FiD.nm l f.nm)=[f]
 have u:isSeg f=true:=(by simp[isSeg,m]);unfold segs at k|-;rw[List.filter_cons,u,if_pos rfl,k]
def byF(f:FiD):List Int:=(f.su++f.lo).map λb=>(b.toNat:Int)
open Classical in
noncomputable def scF(f:FiD):Sc:=if h:∃d st,RdO (byF f) d st then h.choose else sc0
def scF_eq{f:FiD}{d:Sc}{st:Int}(h:RdO (byF f) d st):scF f=d:=by
 have a:∃d st,RdO (byF f) d st:=⟨d,st,h⟩
 grind [scF,rdO_uniq]
def rdO_self(h:ScOK D):RdO (segL D) D (endW 1 D.sl):=by
 refine⟨h,List.prefix_rfl,.inl ⟨1,(nextR []).2.1,(nextR []).2.2.1,(nextR []).2.2.2,Vd,?_,rfl⟩⟩;rw[List.drop_length];rfl
def Zbu{f:FiD}{d:Sc}(h:ScOK d)(a:byF f=segL d):scF f=d:=scF_eq (st:=endW 1 d.sl) (by rw[a];exact rdO_self h)
def byF_app(s:BA)(a c x:List UInt8):byF ⟨s,a,c++x⟩=byF ⟨s,a,c⟩++x.map λb=>(b.toNat:Int):=by
 grind [byF]
end Jou
namespace Jou
open Go Go.Px Go.Proofs Cod Seg Sgr Snp Sx Row Tryz
open Classical in
noncomputable def newF(l:List FiD):Option StD:=if h:∃s,Best l (some s)then some h.choose else none
def Zmy{o:Option StD}(b:srt FiD.nm y)(h:Best y o):newF y=o:=by
 unfold newF
 cases o with
 |none=>rw[dif_neg];rintro⟨s,c⟩;exact h s c.1
 |some s=>
  have a:∃s,Best y (some s):=⟨s,h⟩
  rw[dif_pos a];exact congrArg some (best_uniq b a.choose_spec h)
def Zek(h:numS s≠0)(q:Int):s≠snNm q:=by
 intro e;obtain⟨_,e2⟩:=Zdb h;have:=congrArg (λb:BA=>b.data.toList.length) (e.symm.trans e2);simp only[Zcr,Zch,List.length_append,Zcv]at this;simp at this
def cand_seg(b:numS f.nm≠0)(t:StD):Cand (withB FiD.nm y f) t↔Cand y t:=by
 constructor
 .rintro⟨g,a,h⟩
  rcases Zcb.1 a with rfl|⟨a,_⟩
  .exact absurd h.2.1 (Zek b _)
  .exact⟨g,a,h⟩
 .rintro⟨g,a,h⟩;exact⟨g,Zcb.2 (.inr ⟨a,λe=>Zek b _ (e.symm.trans h.2.1)⟩),h⟩
def Zzr(h:∀t,Cand y t↔Cand Y t){o:Option StD}:Best y o↔Best Y o:=by
 cases o with
 |none=>exact⟨λg t q=>g t ((h t).2 q),λg t q=>g t ((h t).1 q)⟩
 |some s=>exact⟨λg=>⟨(h s).1 g.1,λt q=>g.2 t ((h t).2 q)⟩,λg=>⟨(h s).2 g.1,λt q=>g.2 t ((h t).1 q)⟩⟩
def Zn8{l a:List FiD}(h:∀t,Cand l t↔Cand a t):newF l=newF a:=by
 have e:Best l=Best a:=funext λo=>propext (Zzr h);unfold newF;rw[e]
def Zxf{l:List FiD}{f:FiD}(a:numS f.nm≠0):newF (withB FiD.nm l f)=newF l:=Zn8 λt=>cand_seg a t
noncomputable def keptF(l:List FiD):Int:=match newF l with|none=>0|some s=>s.q
noncomputable def baseF(l:List FiD):StD:=match newF l with|none=>st0|some s=>s
def toE(e:Cod.EvD):Cmp.EvD:=⟨e.s,e.a,e.k,e.c,e.x,e.y,e.z⟩
def evsR(r:List Pt):List Cmp.EvD:=r.flatMap λp=>p.d.ev.map toE
def stR(r:List Pt)(k:Int)(s:StD):StD:=(foldS s ((evsR r).filter λe=>decide (k<e.s))).1
structure GoodR(r:List Pt)(k:Int)(s:StD):Prop where
 bs:∀p∈r.head?,p.d.bs<=k
 cnt:∀p∈r,(p.d.ev.length:Int)=p.d.s-p.d.bs
 app:(foldS s ((evsR r).filter λe=>decide (k<e.s))).2.2=0
 at_:∀p∈r.getLast?,p.d.a=(stR r k s).t
def Zjt:∀(l:List Cmp.EvD) (d:StD) (e:Cmp.EvD),(foldS d l).2.2=0->(appS (foldS d l).1 e).2=0->(foldS d (l++[e])).1=(appS (foldS d l).1 e).1/\(foldS d (l++[e])).2.2=0
 | [],d,e,_,h=>by simp only[foldS]at h|-;rw[List.nil_append,foldS,if_neg (by simpa using h)];exact⟨rfl,rfl⟩
 |x::l,d,e,h0,h=>by
  rw[foldS]at h0 h;rw[Y4,foldS,foldS];by_cases hx:(appS d x).2≠0
  .rw[if_pos hx]at h0;exact absurd h0 hx
  .rw[if_neg hx]at h0 h|-;rw[if_neg hx];exact Zjt l _ e h0 h
def Zxg{e:Cmp.EvD}(h:(appS g e).2=0):(appS g e).1.q=e.s/\(appS g e).1.t=e.a:=by
 unfold appS at h|-
 split
 next d=>rw[if_pos d]at h;exact absurd h d
 .exact⟨rfl,rfl⟩
def Zg2(a b:List Pt):evsR (a++b)=evsR a++evsR b:=by unfold evsR;rw[List.flatMap_append]
def goodR_add{b:List Pt}{p q:Pt}{e:Cod.EvD}(h:GoodR (b++[p]) k g)(f:q.d.bs=p.d.bs)(i:q.d.ev=p.d.ev++[e])(m:q.d.s=e.s)(n:q.d.a=e.a)(j:e.s=p.d.s+1)(o:k<e.s)(ok:(appS (stR (b++[p]) k g) (toE e)).2=0):
  GoodR (b++[q]) k g/\stR (b++[q]) k g=(appS (stR (b++[p]) k g) (toE e)).1:=by
 have l:(evsR (b++[q])).filter (λe=>decide (k<e.s))=(evsR (b++[p])).filter (λe=>decide (k<e.s))++[toE e]:=(by rw[Zg2,Zg2];have u:evsR [q]=evsR [p]++[toE e]:=(by simp[evsR,i]);rw[u,<-List.append_assoc,List.filter_append];congr 1;simp[toE,o]);obtain⟨r,t⟩:=Zjt _ g (toE e) h.app (by have:=ok;unfold stR at this;exact this);have hst:stR (b++[q]) k g=(appS (stR (b++[p]) k g) (toE e)).1:=(by unfold stR;rw[l,r]);refine⟨⟨?_,?_,?_,?_⟩,hst⟩
 .intro x c
  cases b with
  |nil=>have:x=q:=(by simpa using c.symm);subst this;rw[f];exact h.bs p Vs
  |cons s b=>exact h.bs x (by simpa using c)
 .intro x c
  rcases List.mem_append.1 c with c|c
  .exact h.cnt x (by simp[c])
  .have:x=q:=(by simpa using c);subst this;have:=h.cnt p Vs;rw[i,f,m,j,List.length_append];simp only[Wo];omega
 .rw[l];exact t
 .intro x c;have:x=q:=(by simpa using c.symm);subst this;rw[hst,(Zxg ok).2,n];rfl
def Zzs{b:List Pt}{p q:Pt}{k:Int}{s:StD}(h:GoodR (b++[p]) k s)(e:q.d.bs=p.d.bs)(f:q.d.ev=p.d.ev)(j:q.d.s=p.d.s)(l:q.d.a=p.d.a):
  GoodR (b++[q]) k s/\stR (b++[q]) k s=stR (b++[p]) k s:=by
 have i:evsR (b++[q])=evsR (b++[p]):=(by rw[Zg2,Zg2];simp[evsR,f]);have hst:stR (b++[q]) k s=stR (b++[p]) k s:=(by unfold stR;rw[i]);refine⟨⟨?_,?_,by rw[i];exact h.app,?_⟩,hst⟩
 .intro x c
  cases b with
  |nil=>have:x=q:=(by simpa using c.symm);subst this;rw[e];exact h.bs p Vs
  |cons g b=>exact h.bs x (by simpa using c)
 .intro x c
  rcases List.mem_append.1 c with c|c
  .exact h.cnt x (by simp[c])
  .have:x=q:=(by simpa using c);subst this;have:=h.cnt p Vs;rw[f,e,j];exact this
 .intro x c;have:x=q:=(by simpa using c.symm);subst this;rw[hst,l];exact h.at_ p Vs
def goodR_new{r:List Pt}{q:Pt}{e:Cod.EvD}(h:GoodR r k g)(c:q.d.ev=[e])(l:q.d.s=e.s)(m:q.d.a=e.a)(f:e.s=q.d.bs+1)(n:k<e.s)(i:r=[]->q.d.bs<=k)(ok:(appS (stR r k g) (toE e)).2=0):
  GoodR (r++[q]) k g/\stR (r++[q]) k g=(appS (stR r k g) (toE e)).1:=by
 have j:(evsR (r++[q])).filter (λe=>decide (k<e.s))=(evsR r).filter (λe=>decide (k<e.s))++[toE e]:=(by rw[Zg2,List.filter_append];congr 1;simp[evsR,c,toE,n]);obtain⟨o,p⟩:=Zjt _ g (toE e) h.app (by have:=ok;unfold stR at this;exact this);have hst:stR (r++[q]) k g=(appS (stR r k g) (toE e)).1:=(by unfold stR;rw[j,o]);refine⟨⟨?_,?_,by rw[j];exact p,?_⟩,hst⟩
 .intro x b
  cases r with
  |nil=>have:x=q:=(by simpa using b.symm);subst this;exact i rfl
  |cons s t=>exact h.bs x (by simpa using b)
 .intro x b
  rcases List.mem_append.1 b with b|b
  .exact h.cnt x b
  .have:x=q:=(by simpa using b);subst this;rw[c,l,f];simp only[Wo];omega
 .intro x b;have:x=q:=(by simpa using b.symm);subst this;rw[hst,(Zxg ok).2,m];rfl
def Zhg(f:FiD):(byF f).length=f.len:=by unfold byF FiD.len;simp
def Zid(h:(scF f).num≠0):ScOK (scF f)/\segL (scF f)<+:byF f:=by
 by_cases hx:∃d b,RdO (byF f) d b
 .obtain⟨d,b,a⟩:=hx;rw[scF_eq a];exact⟨a.ok,a.pre⟩
 .exfalso;apply h;unfold scF;rw[dif_neg hx];rfl
def scF_all(h:(scF f).num≠0)(a:f.len=(segL (scF f)).length):byF f=segL (scF f):=by
 obtain⟨_,b⟩:=Zid h;exact(b.eq_of_length (by rw[Zhg,a])).symm
def foll_same{d b a:Sc}(c:b.num=d.num)(e:b.bs=d.bs)(f:b.ba=d.ba):foll b a↔foll d a:=by
 unfold foll;rw[c,e,f]
def row_last{l i:List FiD}{g f:FiD}{b:Sc}(p:srt FiD.nm l)(c:inRow scF none (segs l))(e:segs l=i++[g])(k:g.nm=f.nm)(m:ScOK b)(q:byF f=segL b)(n:b.num=(scF g).num)(r:b.bs=(scF g).bs)(s:b.ba=(scF g).ba):
  inRow scF none (segs (withB FiD.nm l f))/\rowsD scF (withB FiD.nm l f)=(i.map (ptF scF)++[⟨b,f.len⟩],[])/\segs (withB FiD.nm l f)=i++[f]:=by
 have d:=Zr3 p e k;have j:scF f=b:=Zbu m q;rw[e,Ze9]at c
 have h:inRow scF none (segs (withB FiD.nm l f)):=by
  rw[d,Ze9];refine⟨c.1,by rw[j,n,c.2.1,k],?_⟩;have o:=c.2.2
  cases hg:(i.getLast?.map scF).or none with
  |none=>trivial
  |some a=>rw[hg]at o;rw[j];exact(foll_same n r s).2 o
 refine⟨h,?_,d⟩;rw[Zo0 h,d,List.map_append];simp[ptF,j]
def row_new{l:List FiD}{f:FiD}{a:Sc}(m:srt FiD.nm l)(i:inRow scF none (segs l))(hno:∀g∈l,g.nm≠f.nm)(j:numS f.nm≠0)(d:∀g∈segs l,numS g.nm<numS f.nm)(k:ScOK a)(n:byF f=segL a)(o:a.num=numS f.nm)(e:∀g,(segs l).getLast?=some g->foll a (scF g)):
  inRow scF none (segs (withB FiD.nm l f))/\rowsD scF (withB FiD.nm l f)=((segs l).map (ptF scF)++[⟨a,f.len⟩],[])/\segs (withB FiD.nm l f)=segs l++[f]:=by
 have b:=segs_new m hno j d;have h:scF f=a:=Zbu k n
 have c:inRow scF none (segs (withB FiD.nm l f)):=by
  rw[b,Ze9];refine⟨i,by rw[h,o],?_⟩
  cases hg:(segs l).getLast? with
  |none=>trivial
  |some g=>show foll (scF f) (scF g);rw[h];exact e g hg
 refine⟨c,?_,b⟩;rw[Zo0 c,b,List.map_append];simp[ptF,h]
structure SgD where
 num:Int
 fi:Int
 la:Int
 fr:Int
 ti:Int
 sz:Int
 sl:Bool
deriving DecidableEq
structure CxD where
 s:Int
 a:Int
 m:List BA
deriving DecidableEq
structure JoD where
 dk:DiD
 cb:Int
 cg:Int
 sg:List SgD
 cx:CxD
 st:StD
 sure:Int
 kept:Int
 shut:Bool
def sgOf(p:Pt):SgD:=⟨p.d.num,p.d.bs,p.d.s,p.d.ba,p.d.a,(segL p.d).length,p.d.sl⟩
def Zbc(r:List Pt):CxD:=match r.getLast? with|none=>⟨0,0,[]⟩|some p=>if p.d.sl=true then⟨0,0,[]⟩else⟨p.d.s,p.d.a,p.d.m⟩
def mayC(b g:Int):Prop:=64<=b/\b<=65536/\1<=g/\g<=1099511627776
noncomputable def rowK(l:List FiD):List Pt×List BA:=match(rowsD scF l).1.getLast? with
 |none=>rowsD scF l
 |some p=>if p.d.s<keptF l then([],(rowsD scF l).1.map (λp=>segNm p.d.num)++(rowsD scF l).2)else rowsD scF l
noncomputable def anewJ(a:DiD)(d e b:Int)(c:Bool):JoD:=
 ⟨a,d,e,(rowK a.fs).1.map sgOf,Zbc (rowK a.fs).1,stR (rowK a.fs).1 (keptF a.fs) (baseF a.fs),b,keptF a.fs,c⟩
structure RightJ(j:JoD):Prop where
 cfg:mayC j.cb j.cg
 dk:j.dk.P
 up:j.dk.dn=false
 out:(rowK j.dk.fs).2=[]
 good:GoodR (rowK j.dk.fs).1 (keptF j.dk.fs) (baseF j.dk.fs)
 all:∀p∈(rowK j.dk.fs).1,p.n=(segL p.d).length
 eq:j=anewJ j.dk j.cb j.cg j.sure j.shut
 sure:keptF j.dk.fs<=j.sure/\j.sure<=j.st.q
structure DkR(l gs:List FiD):Prop where
 srt:srt FiD.nm l
 eq:segs l=gs
 inr:inRow scF none gs
 kept:∀p,(gs.map (ptF scF)).getLast?=some p->keptF l<=p.d.s
def Zdy(h:DkR y Y):rowK y=(Y.map (ptF scF),[]):=by
 have e:rowsD scF y=(Y.map (ptF scF),[]):=(by rw[Zo0 (by rw[h.eq];exact h.inr),h.eq]);unfold rowK;rw[e]
 cases hg:(Y.map (ptF scF)).getLast? with
 |none=>rfl
 |some p=>have:=h.kept p hg;simp only;rw[if_neg Vo]
def dkR_of(c:srt FiD.nm y)(h:(rowK y).2=[]):DkR y (segs y):=by
 have a:(rowsD scF y).2=[]/\∀p,(rowsD scF y).1.getLast?=some p->keptF y<=p.d.s:=by
  unfold rowK at h
  cases hg:(rowsD scF y).1.getLast? with
  |none=>rw[hg]at h;exact⟨h,λp q=>by cases q⟩
  |some p=>
   rw[hg]at h;simp only at h
   split at h
   .exfalso;have:=List.append_eq_nil_iff.1 h;have g:(rowsD scF y).1=[]:=(by simpa using this.1);rw[g]at hg;cases hg
   .exact⟨h,λq e=>by cases e;omega⟩
 have b:=rows_iff.1 a.1;refine⟨c,rfl,b,λp f=>a.2 p ?_⟩;rw[Zo0 b];exact f
def Zcm{l:List FiD}{f:FiD}(a:numS f.nm≠0):keptF (withB FiD.nm l f)=keptF l:=by unfold keptF;rw[Zxf a]
def Zdz{l:List FiD}{f:FiD}(a:numS f.nm≠0):baseF (withB FiD.nm l f)=baseF l:=by unfold baseF;rw[Zxf a]
def Cns:Int->List Cmp.EvD->Int->Prop
 |a,[],b=>a=b
 |a,e::l,b=>e.s=a+1/\Cns e.s l b
def cns_le:∀{l:List Cmp.EvD} {a b:Int},Cns a l b->b=a+l.length
 | [],a,b,h=>by simp only[Cns]at h;simp[h]
 |e::l,a,b,h=>by obtain⟨d,c⟩:=h;have:=cns_le c;rw[List.length_cons];omega
def cns_app:∀{l m:List Cmp.EvD} {a b c:Int},Cns a l b->Cns b m c->Cns a (l++m) c
 | [],m,a,b,c,h,k=>by simp only[Cns]at h;subst h;exact k
 |e::l,m,a,b,c,h,k=>⟨h.1,cns_app h.2 k⟩
def Zvo:∀(l:List Cod.EvD) (s a:Int) (m:List BA),okL s a m l->(fin3 s a m l).1=s+l.length->Cns s (l.map toE) (fin3 s a m l).1
 | [],s,a,m,_,_=>rfl
 |e::l,s,a,m,h,hf=>by obtain⟨f,b⟩:=h;have g:=Zmw l e.s e.a (bhdN m e.c) b;have i:=f.seq;have d:(fin3 e.s e.a (bhdN m e.c) l).1=s+(l.length+1):=(by have:(fin3 s a m (e::l)).1=(fin3 e.s e.a (bhdN m e.c) l).1:=rfl;rw[<-this,hf,List.length_cons];omega);have e1:e.s=s+1:=Vo;refine⟨e1,?_⟩;exact Zvo l e.s e.a (bhdN m e.c) b (by rw[d];omega)
def Zpa(h:ScOK D)(b:D.num≠0)(c:(D.ev.length:Int)=D.s-D.bs):Cns D.bs (D.ev.map toE) D.s:=by
 have a:=h.fin b;simp only[Y07]at a;have:=Zvo D.ev D.bs D.ba [] (h.evs b) (by rw[<-a.1];omega);rw[<-a.1]at this;exact this
def Zs6:∀(b:List FiD) (g:FiD),inRow scF none (b++[g])->(∀f∈b++[g],numS f.nm≠0)->(∀p∈(b++[g]).map (ptF scF),(p.d.ev.length:Int)=p.d.s-p.d.bs)->∀p∈((b++[g]).map (ptF scF)).head?,Cns p.d.bs (evsR ((b++[g]).map (ptF scF))) (scF g).s:=by
 intro b
 induction hlen:b.length generalizing b with
 |zero=>
  have:b=[]:=Yv.1 hlen;subst this;intro g h j l p m;have e:p=ptF scF g:=(by simpa using m.symm);subst e;have c:(scF g).num≠0:=(by have:=h.1;rw[this];exact j g Vs);have:=Zpa (Zid c).1 c (l (ptF scF g) Vs)
  simpa[evsR,ptF]using this
 |succ k o=>
  rcases Y2 b with rfl|⟨b,x,rfl⟩
  .simp at hlen
  rw[List.concat_eq_append]at hlen|-;have o:=o b (by simpa using hlen);intro g h j l p m;rw[Ze9]at h;obtain⟨v,w,z⟩:=h;have c:(scF g).num≠0:=by rw[w];exact j g Vs
  have t:p∈((b++[x]).map (ptF scF)).head?:=by
   cases b with
   |nil=>simpa using m
   |cons y b=>simpa using m
  have C:=o x v (λf i=>j f (by simp at i|-;rcases i with i|i;exact .inl i;exact .inr (.inl i))) (λq r=>l q (by simp at r|-;rcases r with⟨a,A,e⟩|e;exact .inl ⟨a,A,e⟩;exact .inr (.inl e))) p t;have u:foll (scF g) (scF x):=(by simpa using z);have n:=Zpa (Zid c).1 c (l (ptF scF g) Vs);rw[u.2.2.1]at n;rw[List.map_append,Zg2];refine cns_app C ?_
  simpa[evsR,ptF]using n
def Znp:∀{l:List Cmp.EvD} {a b:Int} (k:Int),Cns a l b->a<=k->k<=b->Cns k (l.filter λe=>decide (k<e.s)) b
 | [],a,b,k,h,h1,h2=>by simp only[Cns]at h;subst h;show Cns k [] a;simp only[Cns];omega
 |e::l,a,b,k,h,h1,h2=>by
  obtain⟨f,d⟩:=h;rw[List.filter_cons];by_cases hk:k<e.s
  .rw[if_pos (by simpa using hk)];have e1:k=a:=Vo;subst e1;refine⟨f,?_⟩
   have:(l.filter λe=>decide (k<e.s))=l:=by
    apply List.filter_eq_self.2;intro x c
    have g:∀{l:List Cmp.EvD} {a b:Int},Cns a l b->∀x∈l,a<x.s:=by
     intro l
     induction l with
     |nil=>intro a b _ x c;cases c
     |cons y l i=>
      intro a b h x c
      rcases List.mem_cons.1 c with rfl|c
      .have:=h.1;omega
      .have:=i h.2 x c;have:=h.1;omega
    have:=g d x c;simp;omega
   rw[this];exact d
  .rw[if_neg (by simpa using hk)];exact Znp k d Vo h2
def fold_q:∀{l:List Cmp.EvD} {d:StD} {b:Int},Cns d.q l b->(foldS d l).2.2=0->(foldS d l).1.q=b
 | [],d,b,h,_=>h
 |e::l,d,b,h,h0=>by
  rw[foldS]at h0|-;by_cases a:(appS d e).2≠0
  .rw[if_pos a]at h0;exact absurd h0 a
  .rw[if_neg a]at h0|-;have a:(appS d e).2=0:=(by simpa using a);refine fold_q ?_ h0;rw[(Zxg a).1];exact h.2
theorem Zq2(l:List FiD):(baseF l).q=keptF l:=by
 unfold baseF keptF
 cases newF l<;>rfl
def stR_q(h:DkR y (Y++[f]))(b:GoodR ((Y++[f]).map (ptF scF)) (keptF y) (baseF y)):(stR ((Y++[f]).map (ptF scF)) (keptF y) (baseF y)).q=(scF f).s:=by
 have c:∀g∈Y++[f],numS g.nm≠0:=by rw[<-h.eq];exact Za8
 obtain⟨p,hp⟩:∃p,((Y++[f]).map (ptF scF)).head?=some p:=by
  cases Y with
  |nil=>exact⟨_,rfl⟩
  |cons l Y=>exact⟨_,rfl⟩
 have d:=Zs6 Y f h.inr c b.cnt p hp;have e:=b.bs p hp;have i:=h.kept (ptF scF f) Vs;have j:=Znp (keptF y) d e i;unfold stR;exact fold_q (by rw[Zq2];exact j) b.app
