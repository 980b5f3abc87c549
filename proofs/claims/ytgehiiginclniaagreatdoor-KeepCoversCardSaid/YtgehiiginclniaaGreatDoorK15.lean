import Derived.Test.YtgehiiginclniaaGreatDoorK14
set_option linter.all false
set_option maxRecDepth 100000
variable{b c e i j k z:Int}{n:Nat}{l r:Go.Px.LL}{Q:Go.Px.QQ}{s:BA}{Y y:List Go.Px.FiD}{d:Go.Px.DiD}{x:List Int}{O o:Bool}{f:Go.Px.FiD}{J:Go.Proofs.YtgehiiginclniaaGreatDoor.Jou.JoD}{g:Go.Proofs.YtgehiiginclniaaGreatDoor.Sx.StD}
namespace Go.Proofs.YtgehiiginclniaaGreatDoor
namespace Jou
open Go Go.Px Go.Proofs Cod Seg Sgr Snp Sx Row Tryz
structure Opened(d:DiD)(cb cg:Int)(k:JoD):Prop where
 P:d.P
 cfg:mayC cb cg
 dn:d.dn=false
 good:GoodR (rowK d.fs).1 (keptF d.fs) (baseF d.fs)
 men:menD d=(k.dk,0)
 eq:k=anewJ k.dk cb cg k.st.q false
 st:k.st=stR (rowK d.fs).1 (keptF d.fs) (baseF d.fs)
 right:RightJ k
def stR_qk(h:DkR y Y)(b:GoodR (Y.map (ptF scF)) (keptF y) (baseF y)):keptF y<=(stR (Y.map (ptF scF)) (keptF y) (baseF y)).q:=by
 rcases Y2 Y with rfl|⟨Y,g,rfl⟩
 .show keptF y<=(baseF y).q;rw[Zq2];exact Int.le_refl _
 .rw[List.concat_eq_append]at h b|-;rw[stR_q h b];exact h.kept (ptF scF g) Vs
def Zz1{k:JoD}(h:openP d c e=(k,0)):Opened d c e k:=by
 unfold openP at h
 split at h
 .cases h
 rename_i b;have b:=Yh.1 b
 split at h
 .cases h
 rename_i m
 split at h
 .cases h
 rename_i g;have g:=Yh.1 g
 split at h
 next f=>rw[Prod.mk.injEq]at h;exact absurd h.2 f
 rename_i f;have f:(menD d).2=0:=(by simpa using f);have j:d.dn=false:=by simpa using m
 obtain⟨a,hm⟩:∃a,menD d=(a,0):=⟨_,by rw[<-f]⟩
 rw[hm,Prod.mk.injEq]at h;have n:=h.1;rw[Zvv]at hm;obtain⟨e1,i⟩:=Zxd b.1.2.2.2 g hm c e (stR (rowK d.fs).1 (keptF d.fs) (baseF d.fs)).q false;rw[<-Zvv]at hm;have o:a.P:=by have:=Zw3 (mendP (rowK d.fs).1 (rowK d.fs).2) b.1;rw[show runP d _=(a,0)from hm]at this;exact this
 have p:=(Zp9 _ (show runP d (mendP (rowK d.fs).1 (rowK d.fs).2)=(a,0)from hm)).1;have l:k=anewJ a c e (stR (rowK d.fs).1 (keptF d.fs) (baseF d.fs)).q false:=(by rw[e1,<-n]);have hst:(anewJ a c e (stR (rowK d.fs).1 (keptF d.fs) (baseF d.fs)).q false).st=stR (rowK d.fs).1 (keptF d.fs) (baseF d.fs):=(by rw[e1]);have s:keptF a.fs=keptF d.fs:=kept_same e1;have r:keptF a.fs<=(stR (rowK d.fs).1 (keptF d.fs) (baseF d.fs)).q:=(by have:=i.st;rw[hst]at this;rw[this];exact stR_qk i.dkr i.good);subst l;refine⟨b.1,b.2,j,g,hm,?_,hst,Zp7 i b.2 o (by rw[p];exact j) r (by rw[hst];exact Int.le_refl _)⟩;rw[hst];rfl
def Zz2{d a:DiD}{cb cg:Int}(b:d.P)(h:mayC cb cg)(c:d.dn=false)(e:GoodR (rowK d.fs).1 (keptF d.fs) (baseF d.fs))(f:menD d=(a,0)):openP d cb cg=(anewJ a cb cg (stR (rowK d.fs).1 (keptF d.fs) (baseF d.fs)).q false,0):=by
 have g:=f;rw[Zvv]at g;obtain⟨e1,_⟩:=Zxd b.2.2.2 e g cb cg (stR (rowK d.fs).1 (keptF d.fs) (baseF d.fs)).q false;unfold openP;rw[if_neg (by simp[b,h]),if_neg (by simp[c]),if_neg (by simp[e]),f,if_neg Vs,e1]
def men_row{d a:DiD}(c:Go.Px.srt FiD.nm d.fs)(b:menD d=(a,0)):(rowK a.fs).1.map (·.d)=(rowK d.fs).1.map (·.d)/\Same d a:=by
 rw[Zvv]at b;obtain⟨h,e,_,_,f,_,_,g⟩:=mend_ok c b;rw[e,g];exact⟨by rw[List.map_map,List.map_map];rfl,f⟩
def Zz3{j k:JoD}(a:RightJ j)(h:synQ j=(k,0)):RightJ k/\k.st=j.st/\evsJ k=evsJ j/\k.sure=j.st.q/\k.cb=j.cb/\k.cg=j.cg/\k.shut=j.shut/\k.kept=j.kept/\k.dk.rm=j.dk.rm:=by
 obtain⟨y,z,R⟩:=Zk1 a
 have c:RightJ {j with sure:=j.st.q}/\evsJ {j with sure:=j.st.q}=evsJ j:=by
  have:RightJ {j with sure:=j.st.q}:=by
   refine⟨a.cfg,a.dk,a.up,a.out,a.good,a.all,?_,⟨Int.le_trans y z,Int.le_refl _⟩⟩;have e:=a.eq;unfold anewJ;have e1:=congrArg JoD.sg e;have e2:=congrArg JoD.cx e;have n:=congrArg JoD.st e;have o:=congrArg JoD.kept e
   dsimp only[anewJ]at e1 e2 n o
   dsimp only
   rw[<-e1,<-e2,<-n,<-o]
  refine⟨this,?_⟩;unfold evsJ;rw[if_pos this,if_pos a]
 unfold synQ at h
 rcases Zjr j a with⟨A,m⟩|⟨gs,g,A,hp,m⟩
 .rw[show lasS j.sg=none from by rw[m];rfl]at h;have h:({j with sure:=j.st.q},(0:Int))=(k,0):=h
  cases h
  exact⟨c.1,rfl,c.2,rfl,rfl,rfl,rfl,rfl,rfl⟩
 have t:=congrArg lasS m;rw[Zau]at t;rw[t]at h
 dsimp only at h
 split at h
 .cases h
  exact⟨c.1,rfl,c.2,rfl,rfl,rfl,rfl,rfl,rfl⟩
 rename_i Q
 split at h
 next l=>rw[Prod.mk.injEq]at h;exact absurd h.2 l
 rename_i l;have l:(Zat j.dk (nmG (scF g).num)).2=0:=Yh.1 l
 obtain⟨b,hd⟩:∃b,Zat j.dk (nmG (scF g).num)=(b,0):=⟨_,Wa rfl l⟩
 have h:({j with dk:=(Zat j.dk (nmG (scF g).num)).1,sure:=j.st.q},(0:Int))=(k,0):=h;rw[hd]at h
 cases h
 obtain⟨L,M,b3,C,b5,w⟩:=hp.in_;obtain⟨_,f,D,i,E,F⟩:=Zig hd;have H:g∈j.dk.fs:=(List.mem_filter.1 (show g∈segs j.dk.fs by rw[A];simp)).1;have J:f=g:=(by rw[<-C,Zif hp.dkr.srt H]at D;exact(Option.some.inj D).symm);subst J;rw[<-C]at i;have K:byF ⟨f.nm,f.su++f.lo,[]⟩=segL (scF f):=(by rw[Zvn,M]);have x:(⟨f.nm,f.su++f.lo,[]⟩:FiD).len=f.len:=(by simp[FiD.len]);obtain⟨N,G⟩:=Zlt hp.dkr (f:=⟨f.nm,f.su++f.lo,[]⟩) rfl w L K rfl rfl rfl (hp.dkr.kept (ptF scF f) Vs);rw[<-i]at N G;have d:rowK b.fs=rowK j.dk.fs:=(by rw[G,Zdy hp.dkr,x];simp[ptF]);have r:keptF b.fs=keptF j.dk.fs:=(by rw[i];exact Zcm w);have u:baseF b.fs=baseF j.dk.fs:=(by rw[i];exact Zdz w);have O:b.P:=by have:=Zin (s:=nmG (scF f).num) a.dk;rw[hd]at this;exact this
 have v:RightJ {j with dk:=b,sure:=j.st.q}:=by
  refine⟨a.cfg,O,by show b.dn=false;rw[F];exact a.up,by show(rowK b.fs).2=[];rw[d];exact a.out,?_,by show∀p∈(rowK b.fs).1,_;rw[d];exact a.all,?_,?_⟩
  .show GoodR (rowK b.fs).1 (keptF b.fs) (baseF b.fs);rw[d,r,u];exact a.good
  .have e:=a.eq;show _=anewJ b j.cb j.cg j.st.q j.shut;unfold anewJ;rw[d,r,u];have e1:=congrArg JoD.sg e;have e2:=congrArg JoD.cx e;have n:=congrArg JoD.st e;have o:=congrArg JoD.kept e
   dsimp only[anewJ]at e1 e2 n o
   rw[<-e1,<-e2,<-n,<-o]
  .show keptF b.fs<=j.st.q/\j.st.q<=j.st.q;rw[r];exact⟨Int.le_trans y z,Int.le_refl _⟩
 refine⟨v,rfl,?_,rfl,rfl,rfl,rfl,rfl,E⟩;unfold evsJ;rw[if_pos v,if_pos a];show(rowK b.fs).1.flatMap _=_;rw[d]
end Jou
namespace Jou
open Go Go.Px Go.Proofs Cod Seg Sgr Snp Sx Row Dsk Tryz
def lim_P{d:StD}(h:d.P):lim d:=by
 refine⟨by have:=h.1.1;omega,λc a=>?_⟩;have:=(h.2.1 c a).2;unfold Cmp.CoD.roleP at this
 split at this
 .have:=this.1.2.2.2.1.2;omega
 .split at this
  .rw[this.1.1.2.2.2];simp
  .rw[this.2.1.2.2.2];simp
def ev_len{p:Pt}(h:PtK p):p.d.ev.length<=(segL p.d).length:=by
 have b:∀(l:List Cod.EvD) (s a:Int) (m:List BA),l.length<=(recL s a m l).length:=λl=>by
  induction l with
  |nil=>intro s a m;simp
  |cons e l f=>
   intro s a m;rw[recL,List.length_append,List.length_cons];have:=f e.s e.a (bhdN m e.c);have g:0<(fr 2 (encL s a m e)).length:=by unfold fr sealB;simp
   omega
 rw[Zct h.ne,List.length_append,List.length_append];have:=b p.d.ev p.d.bs p.d.ba [];omega
def jrep_fn(r:List Pt)(G:∀p∈r,PtK p)(T:r.length<=1000000)(s:StD)(H:s.P):Ct prog 114 {} [SL 11 (ptR r),s.sv] (λx=>x=[(repP r s).1.sv,B (repP r s).2]):=by
 refine Zy0 (Zaa (λh=>?_) (λh=>?_))
 .have:r=[]:=Yv.1 (by simpa using h);subst this;rfl
 have J:0<r.length:=by
  rcases WE r.length with e|e
  .simp[e]at h
  .exact e
 have z:r.head?=some r[0]:=(by cases r with|nil=>simp at J|cons x l=>rfl);have v:r.length-1<r.length:=Vo;have A:r.getLast?=some r[r.length-1]:=(by rw[List.getLast?_eq_getElem?];simp[v]);have k:repP r s=if s.q<r[0].d.bs then(s,false)else if(repR s.q s r).2=false then repR s.q s r else((repR s.q s r).1,decide (r[r.length-1].d.a=(repR s.q s r).1.t)):=(by unfold repP;rw[z,A]);refine⟨inM _ Vo Vo,_,_,_,_,_,_,_,_,_,_,_,Zba ptRow r 0 Vo Vo,Zaa (λo=>?_) (λo=>?_)⟩
 .simp at o;rw[k,if_pos o]
 simp at o;rw[if_neg Vo]at k;refine⟨λx l q t=>∃b:StD,l=coR b.cs/\q=b.q/\t=b.t/\lim b/\0<=x/\x<=r.length/\repR s.q b (r.drop x.toNat)=repR s.q s r,λx _ _ _=>(r.length-x).toNat,⟨s,rfl,rfl,rfl,lim_P H,Vo,Vo,Vs⟩,?_⟩;rintro x l q t ⟨b,rfl,rfl,rfl,hL,x0,hx,he⟩;have C:rlen (ptR r)=r.length:=Vs;rw[C];refine Zaa (λg=>?_) (λg=>?_)
 rotate_left
 .simp at g;have K:x.toNat=r.length:=Vo;rw[K,List.drop_length,repR]at he;have L:wsub IntKind.i64 (r.length:Int) 1=((r.length-1:Nat):Int):=by rw[Zar];omega
  rw[L];refine⟨inM _ Vo Vo,_,_,_,_,_,_,_,_,_,_,_,Zf2 v,?_⟩
  dsimp only
  rw[k,<-he,if_neg Vs];simp
 simp at g;have w:x.toNat<r.length:=Vo;have m:=G _ (List.getElem_mem w);have D:r.drop x.toNat=r[x.toNat]::r.drop (x.toNat+1):=List.drop_eq_getElem_cons w;rw[D,repR]at he;have M:=m.bs;have N:=m.s;unfold ctxOK at M N;refine⟨inM _ x0 g,_,_,_,_,_,_,_,_,_,_,_,Zba ptRow r x x0 g,?_⟩
 dsimp only
 rw[Zar];have E:rlen (evR r[x.toNat].d.ev)=r[x.toNat].d.ev.length:=Vs;rw[E];refine Zaa (λc=>?_) (λc=>?_)
 .have c:(r[x.toNat].d.ev.length:Int)≠r[x.toNat].d.s-r[x.toNat].d.bs:=(by simpa using c);rw[if_pos c]at he;rw[k,<-he];rfl
 have c:¬(r[x.toNat].d.ev.length:Int)≠r[x.toNat].d.s-r[x.toNat].d.bs:=(by simpa using c);rw[if_neg c]at he;refine⟨λy l q t=>∃u:StD,l=coR u.cs/\q=u.q/\t=u.t/\lim u/\0<=y/\y<=r[x.toNat].d.ev.length/\repE s.q u (r[x.toNat].d.ev.drop y.toNat)=repE s.q b r[x.toNat].d.ev,λy _ _ _=>(r[x.toNat].d.ev.length-y).toNat,⟨b,rfl,rfl,rfl,hL,Vo,Vo,Vs⟩,?_⟩;rintro y l q t ⟨u,rfl,rfl,rfl,hU,y0,hy,hu⟩;refine Zaa (λi=>?_) (λi=>?_)
 rotate_left
 .simp at i;have O:y.toNat=r[x.toNat].d.ev.length:=Vo;rw[O,List.drop_length,repE]at hu;rw[<-hu,if_neg Vs]at he;rw[Zab];exact⟨rfl,⟨u,rfl,rfl,rfl,hU,Vo,Vo,by rw[show(x+1).toNat=x.toNat+1 by omega];exact he⟩,mlt (by first|omega|(dsimp only;omega))⟩
 simp at i;have F:y.toNat<r[x.toNat].d.ev.length:=Vo;have Q:=ev_len m;rw[List.drop_eq_getElem_cons F,repE]at hu;have R:(r[x.toNat].d.ev.length:Int)<=9223372036854775806:=by have:=m.le;have:=m.n;omega
 refine⟨inM _ y0 i,_,_,_,_,_,_,_,Zba _ _ y y0 i,Zaa (λj=>?_) (λj=>Cl.of (Zqy u (by have:=hU.1;omega) (toE r[x.toNat].d.ev[y.toNat])) ⟨_,_,_,_,rfl,Zaa (λf=>?_) (λf=>?_)⟩)⟩
 .simp at j;rw[if_pos j]at hu;rw[Zab];exact⟨rfl,⟨u,rfl,rfl,rfl,hU,Vo,Vo,by rw[show(y+1).toNat=y.toNat+1 by omega];exact hu⟩,mlt (by first|omega|(dsimp only;omega))⟩
 .simp at j;rw[if_neg Vo]at hu;have f:(appS u (toE r[x.toNat].d.ev[y.toNat])).2≠0:=(by simpa using f);rw[if_pos f]at hu;rw[<-hu,if_pos rfl]at he;rw[k,<-he];rfl
 .simp at j;rw[if_neg Vo]at hu;have f:(appS u (toE r[x.toNat].d.ev[y.toNat])).2=0:=(by simpa using f);rw[if_neg (by simp[f])]at hu;rw[Zab];exact⟨rfl,⟨_,rfl,rfl,rfl,lim_app hU _,Vo,Vo,by rw[show(y+1).toNat=y.toNat+1 by omega];exact hu⟩,mlt (by first|omega|(dsimp only;omega))⟩
def new_cases(a:d.P)(b:d.dn=false)(h:NewR d g e):(e=0/\keptF d.fs=g.q/\baseF d.fs=g)\/(e=14/\g=st0/\keptF d.fs=0/\baseF d.fs=st0):=by
 rcases h with⟨h,_⟩|⟨_,h,_⟩|⟨_,_,⟨he,hb⟩|⟨he,hs,hb⟩⟩
 .exact absurd a h
 .rw[b]at h;cases h
 .have:=Zmy a.2.2.2 hb;exact .inl ⟨he,by unfold keptF;rw[this],by unfold baseF;rw[this]⟩
 .have:=Zmy a.2.2.2 hb;exact .inr ⟨he,hs,by unfold keptF;rw[this],by unfold baseF;rw[this]⟩
def Zra(b:FiD->Sc):∀(l:List FiD) (a:List Pt×List BA),(l.foldl (rstep b) a).1.length+(l.foldl (rstep b) a).2.length<=a.1.length+a.2.length+l.length
 | [],a=>Vs
 |f::l,a=>by
  rw[List.foldl_cons];have h:=Zra b l (rstep b a f)
  have:(rstep b a f).1.length+(rstep b a f).2.length<=a.1.length+a.2.length+1:=by
   unfold rstep
   split
   .omega
   .split<;>simp<;>omega
  simp only[List.length_cons];omega
def Zvx(l:List FiD):(rowsD scF l).1.length+(rowsD scF l).2.length<=l.length:=by
 have:=Zra scF l ([],[])
 simpa[rowsD]using this
def Zpk(l:List FiD):(rowK l).1.length<=l.length/\(rowK l).2.length<=l.length:=by
 have:=Zvx l;unfold rowK
 split
 .omega
 .split
  .simp;omega
  .omega
def rowK_K(h:∀p∈(rowsD scF y).1,PtK p):∀p∈(rowK y).1,PtK p:=by
 unfold rowK
 split
 .exact h
 .split
  .simp
  .exact h
noncomputable abbrev FdV(d:DiD):SV:=fd7 (ptR (rowK d.fs).1) (nR (rowK d.fs).2) (keptF d.fs) (coR (repP (rowK d.fs).1 (baseF d.fs)).1.cs) (repP (rowK d.fs).1 (baseF d.fs)).1.q (repP (rowK d.fs).1 (baseF d.fs)).1.t (repP (rowK d.fs).1 (baseF d.fs)).2
def Znv{r:List Pt}(C:r.length<=1000000)(n:∀p∈r,PtK p){X:Prop}{K:LL->Prop}(o:X)(q:K (nR (r.map λp=>Jou.segNm p.d.num))):
  ∃c:LL->Int->Prop,∃m:LL->Int->Nat,c [] 0/\∀b:LL,∀a:Int,c b a->ifB (ilt a (rlen (ptR r))) (inR a (ptR r)/\(ej3 (rget (ptR r) a) λi t u D E v w F y z A=>
   (Cl prog 88 sP [I i] (λ(g:List SV)=>ej2 g λs=>(((lsum (rlen b) (rlen ([[S s]])))<=((2147483648:Int)))/\(X/\((c (rapp b ([[S s]])) (wadd IntKind.i64 a 1))/\(Nl (m (rapp b ([[S s]])) (wadd IntKind.i64 a 1)) (m b a))))))))) (K b):=by
 refine⟨λl x=>0<=x/\x<=r.length/\l=nR ((r.take x.toNat).map λp=>Jou.segNm p.d.num),λ_ x=>(r.length-x).toNat,⟨Vo,Vo,Vs⟩,?_⟩;rintro l x ⟨x0,hx,rfl⟩;have j:rlen (ptR r)=r.length:=Vs;rw[j];refine Zaa (λh=>?_) (λh=>?_)
 .simp at h;have f:x.toNat<r.length:=Vo;have k:r.take (x+1).toNat=r.take x.toNat++[r[x.toNat]]:=(by rw[show(x+1).toNat=x.toNat+1 by omega,List.take_succ_eq_append_getElem f]);refine⟨inM _ x0 h,_,_,_,_,_,_,_,_,_,_,_,Zba ptRow r x x0 h,Cl.of (Zc3 _) ⟨_,rfl,?_,o,?_,?_⟩⟩
  .simp;omega
  .rw[Zab];refine⟨Vo,Vo,?_⟩;have:=Zfx (n _ (List.getElem_mem f)).num;unfold nmG at this;rw[k,List.map_append,this];unfold rapp nR;rw[List.map_append];rfl
  .rw[Zab];exact mlt (by first|omega|(dsimp only;omega))
 .simp at h;have e:x.toNat=r.length:=Vo;rw[e,Yg];exact q
def Zpl(d:DiD)(q:d.ok)(n:d.P)(j:d.dn=false):Ct prog 51 {} [d.sv] (λr=>r=[FdV d]/\∀p∈(rowK d.fs).1,PtK p):=by
 have A:=n.1.1;refine jlook_nf (Cl.ofQ (jrows_fn d q n j) ?_);rintro r ⟨rfl,hK⟩;have b:=rowK_K hK;have E:=Zvx d.fs;refine⟨_,_,rfl,Cl.ofQ (nnew_fn d q) ?_⟩;rintro r ⟨s,e,rfl,hn⟩;have t:=base_P d.fs;have a:=jrep_fn (rowK d.fs).1 b (by have:=Zpk d.fs;omega) (baseF d.fs) t
 have i:∀(k:Int) (X Y Z:Prop),k=keptF d.fs->((rowK d.fs)=([],(rowsD scF d.fs).1.map (λp=>segNm p.d.num)++(rowsD scF d.fs).2)->X)->(rowK d.fs=rowsD scF d.fs->Y)->(rowK d.fs=rowsD scF d.fs->Z)->
   ifB (igt (rlen (ptR (rowsD scF d.fs).1)) 0) (inR (wsub IntKind.i64 (rlen (ptR (rowsD scF d.fs).1)) 1) (ptR (rowsD scF d.fs).1)/\(ej3 (rget (ptR (rowsD scF d.fs).1) (wsub IntKind.i64 (rlen (ptR (rowsD scF d.fs).1)) 1)) λF G H J K w L M N O D=>ifB (ilt w k) X Y)) Z:=by
  intro k X Y Z c x y z;generalize a:rowsD scF d.fs=R at*;have u:rlen (ptR R.1)=R.1.length:=Vs;rw[u]
  have f:rowK d.fs=match R.1.getLast? with|none=>R|some p=>if p.d.s<keptF d.fs then([],R.1.map (λp=>segNm p.d.num)++R.2)else R:=by unfold rowK;rw[a];rfl
  refine Zaa (λh=>?_) (λh=>?_)
  .simp at h;have l:R.1.length-1<R.1.length:=Vo;have C:wsub IntKind.i64 (R.1.length:Int) 1=((R.1.length-1:Nat):Int):=by rw[Zar];omega
   have v:R.1.getLast?=some R.1[R.1.length-1]:=(by rw[List.getLast?_eq_getElem?];simp[l]);rw[v]at f
   dsimp only at f
   rw[C];refine⟨inM _ Vo Vo,_,_,_,_,_,_,_,_,_,_,_,Zf2 l,Zaa (λo=>x ?_) (λo=>y ?_)⟩
   .simp at o;rw[f,if_pos Vo]
   .simp at o;rw[f,if_neg Vo]
  .have h:R.1=[]:=(by simpa using h);have:R.1.getLast?=none:=(by rw[h];rfl);rw[this]at f;exact z f
 have m:(rowsD scF d.fs).1.length<=1000000:=Vo
 rcases new_cases n j hn with⟨rfl,c,g⟩|⟨rfl,rfl,c,g⟩
 .refine⟨_,_,_,_,rfl,Zaa (λ_=>?_) (λh=>by simp at h)⟩;rw[g]at a;refine i _ _ _ _ c.symm (λer=>Znv m hK rfl ⟨?_,?_⟩) (λer=>?_) (λer=>?_)
  .simp;omega
  .rw[er]at a;refine Cl.of a ⟨_,_,_,_,rfl,⟨?_,b⟩⟩;simp only[FdV,er,c,g];rw[Zkq];rfl
  .rw[er]at a;refine Cl.of a ⟨_,_,_,_,rfl,⟨?_,b⟩⟩;simp only[FdV,er,c,g]
  .rw[er]at a;refine Cl.of a ⟨_,_,_,_,rfl,⟨?_,b⟩⟩;simp only[FdV,er,c,g]
 .refine⟨_,_,_,_,rfl,Zaa (λh=>by simp at h) (λ_=>?_)⟩;rw[g]at a;refine i _ _ _ _ c.symm (λer=>Znv m hK rfl ⟨?_,?_⟩) (λer=>?_) (λer=>?_)
  .simp;omega
  .rw[er]at a;refine Cl.of a ⟨_,_,_,_,rfl,⟨?_,b⟩⟩;simp only[FdV,er,c,g];rw[Zkq];rfl
  .rw[er]at a;refine Cl.of a ⟨_,_,_,_,rfl,⟨?_,b⟩⟩;simp only[FdV,er,c,g]
  .rw[er]at a;refine Cl.of a ⟨_,_,_,_,rfl,⟨?_,b⟩⟩;simp only[FdV,er,c,g]
def Zxt(s:BA):Ct prog 116 {} [S s] (λr=>r=[.clo 184 [.ref 0 [S s]]]):=Zyv rfl
def jcut_fn(s:BA)(n:Int):Ct prog 118 {} [S s,I n] (λr=>r=[.clo 186 [.ref 0 [S s],.ref 0 [I n]]]):=jcut_nf rfl
def Zhy(s:BA):Ct prog 87 {} [S s] (λr=>r=[.clo 150 [.ref 0 [S s]]]):=jsync_nf rfl
def Zxu(s:BA):Ct prog 142 {} [S s] (λr=>r=[.clo 206 [.ref 0 [S s]]]):=Zyw rfl
def jwrite_fn(s:BA)(x:List UInt8):Ct prog 205 {} [S s,SL 1 (uR x)] (λr=>r=[.clo 276 [.ref 0 [S s],.ref 0 [SL 1 (uR x)]]]):=jwrite_nf rfl
def backs_fn(a:LL):Ct prog 115 {} [SL 1 a] (λr=>r=[.clo 183 [.ref 0 [SL 1 a]]]):=backs_nf rfl
def backp_fn(a:LL):Ct prog 117 {} [SL 11 a] (λr=>r=[.clo 185 [.ref 0 [SL 11 a]]]):=backp_nf rfl
def rev_at{a:Type}(l:List a)(x:Int)(b:0<=x)(h:x<l.length):∃c:x.toNat<l.reverse.length,kdn (l.length:Int) x=((l.length-1-x.toNat:Nat):Int)/\∃d:l.length-1-x.toNat<l.length,l[l.length-1-x.toNat]=l.reverse[x.toNat]:=by
 grind [kdn]
def mend_fn(r:List Pt)(o:List BA)(g:Int)(u:LL)(s a:Int)(i:Bool)(z:r.length<=1000)(A:o.length<=1000):Ct prog 53 {} [fd7 (ptR r) (nR o) g u s a i] (λx=>x=[SL 1 (tR (mendP r o))]):=by
 have d:rlen (nR o)=o.length:=Vs;have e:rlen (ptR r)=r.length:=Vs;have q:∀p:Pt,(cutP p).length<=1:=λp=>by unfold cutP;split<;>simp
 have b:∀l:List Pt,(l.flatMap cutP).length<=l.length:=λl=>by
  induction l with
  |nil=>simp
  |cons p l D=>rw[Ya,List.length_append,List.length_cons];have:=q p;omega
 refine mend_nf _ _ _ _ _ _ _ _ (Cl.of (backs_fn _) ⟨_,_,rfl,_,rfl,rfl,by rw[d];omega,?_⟩);rw[d];refine⟨λx l=>0<=x/\x<=o.length/\l=tR ((o.reverse.take x.toNat).map Stp.rem),⟨Vo,Vo,Vs⟩,?_,?_⟩
 .rintro x j k l ⟨_,_,rfl⟩;obtain⟨m,e1,n,e2⟩:=rev_at o x j k;rw[e1];refine⟨_,Zaj _ _ _ n,Cl.of (Zxt _) ⟨_,_,rfl,?_,rfl,?_⟩⟩
  .simp;omega
  .unfold kup;refine⟨Vo,Vo,?_⟩;rw[show(x+1).toNat=x.toNat+1 by omega,List.take_succ_eq_append_getElem m,e2];simp[rapp,Stp.row]
 rintro l ⟨_,_,rfl⟩;rw[Int.toNat_natCast,show o.reverse.take o.length=o.reverse from List.take_of_length_le Vs];refine Cl.of (backp_fn _) ⟨_,_,rfl,_,rfl,rfl,by rw[e];omega,?_⟩;rw[e];refine⟨λx l=>0<=x/\x<=r.length/\l=tR (o.reverse.map Stp.rem++(r.reverse.take x.toNat).flatMap cutP),⟨Vo,Vo,Vs⟩,?_,?_⟩
 .rintro x j k l ⟨_,_,rfl⟩;obtain⟨m,e1,n,e2⟩:=rev_at r x j k;have y:r.reverse.take (kup x).toNat=r.reverse.take x.toNat++[r.reverse[x.toNat]]:=(by unfold kup;rw[show(x+1).toNat=x.toNat+1 by omega,List.take_succ_eq_append_getElem m]);have c:=b (r.reverse.take x.toNat);have t:(r.reverse.take x.toNat).length<=1000:=Vm;rw[e1];refine⟨_,_,_,_,_,_,_,_,_,_,_,Zf2 n,Zaa (λh=>Cl.of (Zc3 _) ⟨_,rfl,Cl.of (jcut_fn _ _) ⟨_,_,rfl,?_,rfl,?_⟩⟩) (λh=>⟨rfl,?_⟩)⟩
  .simp at c t|-;omega
  .refine⟨by unfold kup;omega,by unfold kup;omega,?_⟩
   simp_all[List.flatMap_append,e2,rapp,Stp.row,cutP,nmG,segL]
  .refine⟨by unfold kup;omega,by unfold kup;omega,?_⟩
   simp_all[List.flatMap_append,e2,cutP]
 rintro l ⟨_,_,rfl⟩;rw[Int.toNat_natCast,show r.reverse.take r.length=r.reverse from List.take_of_length_le Vs];have c:=b r.reverse;refine Zaa (λh=>?_) (λh=>?_)
 .have h:0<r.length:=by
   simp_all
  have f:r.length-1<r.length:=Vo;have w:wsub IntKind.i64 (r.length:Int) 1=((r.length-1:Nat):Int):=(by grind [Zar]);have C:r.getLast?=some r[r.length-1]:=Vg;rw[w];refine⟨inM _ Vo Vo,_,_,_,_,_,_,_,_,_,_,_,Zf2 f,Zaa (λv=>⟨inM _ Vo Vo,_,_,_,_,_,_,_,_,_,_,_,Zf2 f,Cl.of (Zc3 _) ⟨_,rfl,Cl.of (Zhy _) ⟨_,_,rfl,?_,?_⟩⟩⟩) (λv=>?_)⟩
  .simp only[rlen_eq,List.length_map,List.length_append,Y05,lsum_eq,List.length_cons,List.length_nil]at c|-;omega
  .simp_all[rapp,Stp.row,synP,mendP,Znn,nmG]
  simp_all[synP,mendP,Znn]
 simp_all[synP,mendP]
def mendP_ok{r:List Pt}{o:List BA}:∀s∈mendP r o,s.ok:=by
 intro s a;unfold mendP at a
 rcases List.mem_append.1 a with h|h
 .obtain⟨n,_,rfl⟩:=Y5.1 h;trivial
 .rcases List.mem_append.1 h with h|h
  .obtain⟨p,_,h⟩:=List.mem_flatMap.1 h;unfold cutP at h
   split at h
   .simp at h;subst h;trivial
   .cases h
  .unfold synP at h
   split at h
   .cases h
   .split at h
    .cases h
    .simp at h;subst h;trivial
def mendP_len{r:List Pt}{o:List BA}:(mendP r o).length<=o.length+r.length+1:=by
 have a:∀l:List Pt,(l.flatMap cutP).length<=l.length:=λl=>by
  induction l with
  |nil=>simp
  |cons p l b=>
   grind [List.length_append,List.length_cons,cutP]
 grind [List.length_append,List.length_map,List.length_reverse,synP,mendP]
def JoD.sv(j:JoD):SV:=jr16 (fR j.dk.fs) j.dk.rm j.dk.st j.dk.dn j.cb j.cg (sgR j.sg) j.cx.s j.cx.a (nR j.cx.m) (coR j.st.cs) j.st.q j.st.t j.sure j.kept j.shut
def Zko(d:DiD):(repP (rowK d.fs).1 (baseF d.fs)).2=true↔GoodR (rowK d.fs).1 (keptF d.fs) (baseF d.fs):=by
 rw[repP_iff,Zq2]
def good_st(h:GoodR (rowK d.fs).1 (keptF d.fs) (baseF d.fs)):(repP (rowK d.fs).1 (baseF d.fs)).1=stR (rowK d.fs).1 (keptF d.fs) (baseF d.fs):=by
 grind [Zq2,repP_st,rowK,baseF]
def Zon(d:DiD)(j:d.ok)(a b:Int):Ct prog 13 {} [d.sv,.agg [I a,I b]] (λr=>r=[(openP d a b).1.sv,I (openP d a b).2]):=by
 refine jopen_nf (Cl.of (Zd6 d j) ⟨_,rfl,Zaa (λh=>?_) (λh=>Cl.of (Zqv a b) ⟨_,rfl,Zaa (λf=>?_) (λf=>?_)⟩)⟩)
 .simp at h;unfold openP;rw[if_pos (λq=>h q.1)];rfl
 .simp at f;unfold openP;rw[if_pos (λq=>f q.2)];rfl
 simp at h f;have k:¬¬(d.P/\mayC a b):=λq=>q ⟨h,f⟩;refine Zaa (λi=>?_) (λi=>?_)
 .unfold openP;rw[if_neg k,if_pos i];rfl
 have l:=h.1.1;have m:=Zpk d.fs;refine Cl.ofQ (Zpl d j h i) ?_;rintro r ⟨rfl,hK⟩;refine⟨_,_,_,_,_,_,_,rfl,Zaa (λc=>?_) (λc=>Cl.of (mend_fn _ _ _ _ _ _ _ Vo Vo) ⟨_,rfl,Cl.of (Zs0 d j _ mendP_ok (by have:=mendP_len (r:=(rowK d.fs).1) (o:=(rowK d.fs).2);omega)) ⟨_,_,_,_,_,rfl,?_⟩⟩)⟩
 .have c:¬GoodR (rowK d.fs).1 (keptF d.fs) (baseF d.fs):=(by rw[<-Zko];simpa using c);unfold openP;rw[if_neg k,if_neg (by simp[i]),if_pos c];rfl
 have c:GoodR (rowK d.fs).1 (keptF d.fs) (baseF d.fs):=by simp_all[Zko]
 have e:openP d a b=if(menD d).2≠0 then(jo0 (menD d).1,(menD d).2)else(⟨(menD d).1,a,b,(rowK d.fs).1.map sgOf,Zbc (rowK d.fs).1,stR (rowK d.fs).1 (keptF d.fs) (baseF d.fs),(stR (rowK d.fs).1 (keptF d.fs) (baseF d.fs)).q,keptF d.fs,false⟩,0):=by
  grind [openP]
 rw[e,good_st c];refine Zaa (λg=>?_) (λg=>?_)
 .have g:(menD d).2≠0:=(by simp_all[menD]);rw[if_pos g];rfl
 .have g:(menD d).2=0:=(by simp_all[menD]);rw[if_neg (by simp[g])];exact Cl.of (Zve _ Vo) ⟨_,rfl,Cl.of (Zqu _ Vo) ⟨_,_,_,rfl,rfl⟩⟩
structure JoD.ok(j:JoD):Prop where
 dk:j.dk.ok
 sg:j.sg.length<=1000000
 m:j.cx.m.length<=1000000
 cs:j.st.cs.length<=1000000
 cl:∀c∈j.st.cs,c.cl.length<=1000000
def sgd_band(p q:SgD):band (ieq p.num q.num) (band (ieq p.fi q.fi) (band (ieq p.la q.la) (band (ieq p.fr q.fr) (band (ieq p.ti q.ti) (band (ieq p.sz q.sz) (band (beqB p.sl q.sl) true))))))=decide (p=q):=by
 cases p;cases q
 rw[Bool.eq_iff_iff];simp
theorem take_eq{c:Type}{a b:List c}(d:n<a.length)(f:n<b.length)(h:a.take n=b.take n)(e:a[n]=b[n]):a.take (n+1)=b.take (n+1):=by
 rw[List.take_succ_eq_append_getElem d,List.take_succ_eq_append_getElem f,h,e]
def jsegeq_fn(a b:List SgD)(g:a.length<=1000000):Ct prog 57 {} [SL 7 (sgR a),SL 7 (sgR b)] (λr=>r=[B (decide (a=b))]):=by
 refine segeq_nf (Zaa (λh=>?_) (λh=>?_))
 .have:¬a=b:=λe=>by rw[e]at h;simp at h
  grind
 have i:a.length=b.length:=(by simp at h;omega);refine⟨λ_ x=>0<=x/\x<=a.length/\a.take x.toNat=b.take x.toNat,λ_ x=>(a.length-x).toNat,⟨Vo,Vo,rfl⟩,?_⟩;rintro _ x ⟨x0,hx,he⟩;refine Zaa (λc=>?_) (λc=>?_)
 .have c:x<a.length:=(by simp_all);have d:x<b.length:=Vo;refine⟨inM _ x0 c,_,_,_,_,_,_,_,Zba SgD.row a x x0 c,inM _ x0 d,_,_,_,_,_,_,_,Zba SgD.row b x x0 d,?_⟩
  dsimp only
  rw[sgd_band,Zab];refine Zaa (λf=>?_) (λf=>⟨rfl,⟨Vo,Vo,?_⟩,mlt (by first|omega|(dsimp only;omega))⟩)
  .have:¬a=b:=λe=>by subst e;simp at f
   grind
  .rw[show(x+1).toNat=x.toNat+1 by omega];exact take_eq Vo Vo he (by simpa using f)
 .have c:x=a.length:=by simp at c;omega
  grind [Int.toNat_natCast,List.take_length]
def jstreq_fn(a b:List BA)(g:a.length<=1000000):Ct prog 120 {} [SL 1 (nR a),SL 1 (nR b)] (λr=>r=[B (decide (a=b))]):=by
 refine streq_nf (Zaa (λh=>?_) (λh=>?_))
 .have:¬a=b:=λe=>by rw[e]at h;simp at h
  grind
 have i:a.length=b.length:=(by simp at h;omega);refine⟨λ_ x=>0<=x/\x<=a.length/\a.take x.toNat=b.take x.toNat,λ_ x=>(a.length-x).toNat,⟨Vo,Vo,rfl⟩,?_⟩;rintro _ x ⟨x0,hx,he⟩;refine Zaa (λc=>?_) (λc=>?_)
 .have c:x<a.length:=(by simp_all);have d:x<b.length:=Vo;refine⟨inM _ x0 c,_,Zba _ a x x0 c,inM _ x0 d,_,Zba _ b x x0 d,?_⟩
  dsimp only
  rw[sne_eq,Zwa,Zab];refine Zaa (λf=>?_) (λf=>⟨rfl,⟨Vo,Vo,?_⟩,mlt (by first|omega|(dsimp only;omega))⟩)
  .have:¬a=b:=λe=>by subst e;simp at f
   grind
  .rw[show(x+1).toNat=x.toNat+1 by omega]
   grind [take_eq]
 .have c:x=a.length:=by simp at c;omega
  grind [Int.toNat_natCast,List.take_length]
def jsame_fn(c d:CxD)(b:c.m.length<=1000000):Ct prog 58 {} [c.sv,d.sv] (λr=>r=[B (decide (c=d))]):=by
 have ext:c=d↔(c.s=d.s/\c.a=d.a)/\c.m=d.m:=(by cases c;cases d;simp[and_assoc]);refine jsame_nf (Zaa (λh=>Cl.of (jstreq_fn _ _ b) ⟨_,rfl,?_⟩) (λh=>?_))
 .simp_all
 simp_all
open Classical in
noncomputable def rgtJ(j:JoD):Bool:=decide (RightJ j)
def Zck{j:JoD}:rgtJ j=true↔RightJ j:=by unfold rgtJ;simp
def rgtJ_no(h:¬RightJ J):rgtJ J=false:=by unfold rgtJ;simp[h]
def Zdn:RightJ J↔mayC J.cb J.cg/\J.dk.P/\J.dk.dn=false/\GoodR (rowK J.dk.fs).1 (keptF J.dk.fs) (baseF J.dk.fs)/\(rowK J.dk.fs).2=[]/\(∀p∈(rowK J.dk.fs).1,p.n=(segL p.d).length)/\
  J.sg=(rowK J.dk.fs).1.map sgOf/\J.cx=Zbc (rowK J.dk.fs).1/\J.st=stR (rowK J.dk.fs).1 (keptF J.dk.fs) (baseF J.dk.fs)/\J.kept=keptF J.dk.fs/\J.kept<=J.sure/\J.sure<=J.st.q:=by
 constructor
 .intro h;have e:=h.eq;have e1:=congrArg JoD.sg e;have e2:=congrArg JoD.cx e;have b:=congrArg JoD.st e;have a:=congrArg JoD.kept e;have c:J.kept=keptF J.dk.fs:=a;exact⟨h.cfg,h.dk,h.up,h.good,h.out,h.all,e1,e2,b,a,by rw[c];exact h.sure.1,h.sure.2⟩
 .rintro⟨f,g,i,k,l,m,e1,e2,b,a,o,r⟩;refine⟨f,g,i,l,k,m,?_,by rw[<-a];exact o,r⟩;unfold anewJ;rw[<-e1,<-e2,<-b,<-a]
def Zdu(j:JoD)(h:j.ok):Ct prog 17 {} [j.sv] (λr=>r=[B (rgtJ j)]):=by
 have no:∀{p:Prop},(RightJ j->p)->¬p->rgtJ j=false:=λf g=>rgtJ_no λq=>g (f q);refine jright_nf (Cl.of (Zqv _ _) ⟨_,rfl,Zaa (λg=>?_) (λg=>?_)⟩)
 .rw[no (λq=>q.cfg) (by simpa using g)]
 have v:mayC j.cb j.cg:=(by simpa using g);refine Cl.of (Zd6 j.dk h.dk) ⟨_,rfl,Zaa (λg=>?_) (λg=>?_)⟩
 .rw[no (λq=>And.intro q.dk q.up) (λq=>by simp[q.1,q.2]at g)]
 have l:j.dk.P:=Classical.byContradiction λq=>by simp[q]at g
 have o:j.dk.dn=false:=(by simp_all);have w:=l.1.1;have F:=Zpk j.dk.fs;refine Cl.ofQ (Zpl j.dk h.dk l o) ?_;rintro r ⟨rfl,hK⟩;refine⟨_,_,_,_,_,_,_,rfl,Zaa (λg=>?_) (λg=>?_)⟩
 .rw[no (λq=>And.intro q.good q.out) (λq=>by
   have:=(Zko j.dk).2 q.1;rw[this,q.2]at g
   simp at g)]
 have s:GoodR (rowK j.dk.fs).1 (keptF j.dk.fs) (baseF j.dk.fs):=(Zko j.dk).1 (Classical.byContradiction λq=>by simp[q]at g)
 have y:(rowK j.dk.fs).2=[]:=by
  simp_all
 have t:rlen (ptR (rowK j.dk.fs).1)=(rowK j.dk.fs).1.length:=Vs;refine⟨λ_ x=>0<=x/\x<=(rowK j.dk.fs).1.length/\∀i:Nat,∀c:i<(rowK j.dk.fs).1.length,i<x->(rowK j.dk.fs).1[i].n=(segL (rowK j.dk.fs).1[i].d).length,λ_ x=>((rowK j.dk.fs).1.length-x).toNat,⟨Vo,Vo,by intro i c q;omega⟩,?_⟩;rintro _ x ⟨x0,hx,hall⟩;rw[t];refine Zaa (λg=>?_) (λg=>?_)
 .have g:x<(rowK j.dk.fs).1.length:=(by simpa using g);have a:x.toNat<(rowK j.dk.fs).1.length:=Vo;have k:=hK _ (List.getElem_mem a);refine⟨inM _ x0 g,_,_,_,_,_,_,_,_,_,_,_,Zba ptRow _ x x0 g,Zaa (λz=>?_) (λz=>⟨rfl,?_,?_⟩)⟩
  .rw[no (λq=>q.all _ (List.getElem_mem a)) (by simp at z;omega)]
  .rw[Zab];refine⟨Vo,Vo,λi c q=>?_⟩;by_cases e:i<x
   .grind
   .have:i=x.toNat:=Vo;subst this;have:=k.le;simp at z;omega
  grind [Zab,mlt]
 have A:∀p∈(rowK j.dk.fs).1,p.n=(segL p.d).length:=λp k=>by
  obtain⟨i,c,rfl⟩:=List.mem_iff_getElem.1 k;simp at g
  grind
 refine Cl.of (Zve _ Vo) ⟨_,rfl,Cl.of (jsegeq_fn _ _ h.sg) ⟨_,rfl,Zaa (λg=>?_) (λg=>?_)⟩⟩
 .rw[no (λq=>(Zdn.1 q).2.2.2.2.2.2.1) (by simpa using g)]
 have C:j.sg=(rowK j.dk.fs).1.map sgOf:=(by simpa using g);refine Cl.of (Zqu _ Vo) ⟨_,_,_,rfl,Cl.of (jsame_fn j.cx (Zbc (rowK j.dk.fs).1) h.m) ⟨_,rfl,Zaa (λg=>?_) (λg=>?_)⟩⟩
 .rw[no (λq=>(Zdn.1 q).2.2.2.2.2.2.2.1) (by simpa using g)]
 have D:j.cx=Zbc (rowK j.dk.fs).1:=(by simpa using g);have b:=Zo5 j.st (repP (rowK j.dk.fs).1 (baseF j.dk.fs)).1 (by have:=h.cs;omega) h.cl;rw[good_st s]at b|-;refine Cl.of b ⟨_,rfl,Zaa (λg=>?_) (λg=>?_)⟩
 .rw[no (λq=>And.intro (Zdn.1 q).2.2.2.2.2.2.2.2.1 (Zdn.1 q).2.2.2.2.2.2.2.2.2.1) (λq=>by simp[q.1,q.2]at g)]
 have E:j.st=stR (rowK j.dk.fs).1 (keptF j.dk.fs) (baseF j.dk.fs):=Classical.byContradiction λq=>by simp[q]at g
 have u:j.kept=keptF j.dk.fs:=Classical.byContradiction λq=>by simp[q]at g
 have:rgtJ j=bpick (ige j.sure j.kept) (ile j.sure j.st.q) false:=by
  rw[Bool.eq_iff_iff,Zck];constructor
  .intro q;have:=(Zdn.1 q).2.2.2.2.2.2.2.2.2.2
   simp_all
  .intro q;have q:j.kept<=j.sure/\j.sure<=j.st.q:=(by simpa using q);exact Zdn.2 ⟨v,l,o,s,y,A,C,D,E,u,q.1,q.2⟩
 rw[this]
def jmay_fn(j:JoD)(h:j.ok):Ct prog 68 {} [j.sv] (λr=>r=[I (mayJ j)]):=by
 refine jmay_nf (Cl.of (Zd6 j.dk h.dk) ⟨_,rfl,Zaa (λg=>?_) (λg=>Cl.of (Zdu j h) ⟨_,rfl,Zaa (λz=>?_) (λz=>?_)⟩)⟩)
 .simp_all[mayJ]
 .have z:¬RightJ j:=λq=>by rw[Zck.2 q]at z;simp at z
  simp_all[mayJ]
 .have z:RightJ j:=Zck.1 (by simpa using z);rw[Zbz.2 z]
def Zew(j:JoD)(h:j.ok):Ct prog 15 {} [j.sv] (λr=>r=[SL 7 (evR (evsJ j))]):=by
 refine Zyz (Cl.of (Zdu j h) ⟨_,rfl,Zaa (λg=>?_) (λg=>?_)⟩)
 .have g:¬RightJ j:=λq=>by rw[Zck.2 q]at g;simp at g
  grind [evsJ]
 have g:RightJ j:=Zck.1 (by simpa using g);have o:evsJ j=(rowK j.dk.fs).1.flatMap (·.d.ev):=(by grind [evsJ]);rw[o];have s:=g.dk.1.1;have t:=Zpk j.dk.fs;refine Cl.ofQ (Zpl j.dk h.dk g.dk g.up) ?_;rintro r ⟨rfl,hK⟩;refine⟨_,_,_,_,_,_,_,rfl,?_⟩;generalize(rowK j.dk.fs).1=R at*
 have c:∀l:List Pt,(∀p∈l,PtK p)->(l.flatMap (·.d.ev)).length<=65536*l.length:=λl=>by
  induction l with
  |nil=>intro _;simp
  |cons p l y=>
   intro b;have u:=ev_len (b p Vs);have v:=(b p Vs).le;have w:=(b p Vs).n
   grind
 have e:rlen (ptR R)=R.length:=Vs;refine⟨λl x=>0<=x/\x<=R.length/\l=evR ((R.take x.toNat).flatMap (·.d.ev)),λ_ x=>(R.length-x).toNat,⟨Vo,Vo,rfl⟩,?_⟩;rintro l x ⟨x0,hx,rfl⟩;rw[e];refine Zaa (λg=>?_) (λg=>?_)
 .have g:x<R.length:=(by simpa using g);have f:x.toNat<R.length:=Vo;have i:R.take (x+1).toNat=R.take x.toNat++[R[x.toNat]]:=(by rw[show(x+1).toNat=x.toNat+1 by omega,List.take_succ_eq_append_getElem f]);have k:=c (R.take (x+1).toNat) (λp m=>hK p (List.mem_of_mem_take m));have a:(R.take (x+1).toNat).length<=64:=Vm;refine⟨inM _ x0 g,_,_,_,_,_,_,_,_,_,_,_,Zba ptRow _ x x0 g,?_,rfl,?_,?_⟩
  .rw[i]at k a;simp only[List.flatMap_append,List.length_append,Ya,WP,List.append_nil,rlen_eq,List.length_map,lsum_eq]at k a|-;omega
  .grind [rapp,Zab]
  grind [Zab,mlt]
 .have g:x.toNat=R.length:=by simp at g;omega
  grind
def WrD.sv(w:WrD):SV:=wr18 (fR w.j.dk.fs) w.j.dk.rm w.j.dk.st w.j.dk.dn w.j.cb w.j.cg (sgR w.j.sg) w.j.cx.s w.j.cx.a (nR w.j.cx.m) (coR w.j.st.cs) w.j.st.q w.j.st.t w.j.sure w.j.kept w.j.shut (tR w.td) w.sz
def bR_bys(h:Byts x):bR x=uR (bys x):=by
 grind [uR_bR,bys,iU_of]
theorem sg_len(l:List SgD)(p:SgD):rlen (sgR (l++[p]))=l.length+1:=Vs
def Zha{l:List SgD}(p:SgD)(h:l.length<=1000000:=by omega):wsub .i64 (rlen (sgR (l++[p]))) 1=(l.length:Int):=by
 grind [sg_len,Zar]
def Ze0(l:List SgD)(p:SgD):rget (sgR (l++[p])) (l.length:Int)=p.row:=by simp[rget]
theorem Zvu(l:List SgD)(p q:SgD):rset (sgR (l++[p])) (l.length:Int) q.row=sgR (l++[q]):=by simp[rset]
def sg_in(l:List SgD)(p:SgD):inR (l.length:Int) (sgR (l++[p])):=⟨Vo,by rw[sg_len];omega⟩
def tR_app(a:List Stp)(s:Stp):rapp (tR a) [s.row]=tR (a++[s]):=by simp[rapp]
def Ztc(w:WrD)(l:List SgD)(p:SgD)(c:w.j.sg=l++[p])(b:List Int)(d:Byts b)(f:l.length<=1000000)(h:w.td.length<=1000000)(g:b.length<=1000000)(i:0<=p.sz/\p.sz<=1000000000)(k:0<=w.sz/\w.sz<=1000000000):
  Ct prog 140 sgP [w.sv,SL 1 (bR b)] (λr=>r=[(putW w l p b).sv]):=by
 refine wput_nf ?_;rw[c,Zha p f,bR_bys d];have a:rlen (uR (bys b))=b.length:=(by simp[bys]);rw[a];refine⟨sg_in l p,sg_in l p,_,_,_,_,_,_,_,Ze0 l p,sg_in l p,_,_,_,_,_,_,_,Ze0 l p,?_⟩;rw[Zab,Zab];have e:=Zvu l p {p with sz:=p.sz+b.length};unfold SgD.row at e
 dsimp only at e|-
 rw[e];refine⟨sg_in l _,_,_,_,_,_,_,_,Ze0 l _,Cl.of (Zc3 _) ⟨_,rfl,Cl.of (jwrite_fn _ _) ⟨_,_,rfl,?_,?_⟩⟩⟩
 .simp;omega
 .have:=tR_app w.td (.wri (nmG p.num) (bys b));unfold Stp.row at this;rw[this];rfl
def wopen_fn(w:WrD)(b:w.j.sg.length<=1000000):Ct prog 74 sgW [w.sv] (λr=>r=[B (opnW w),w.sv]):=by
 refine wopen_nf ?_
 rcases Y2 w.j.sg with e|⟨l,p,e⟩
 .rw[e];refine Zaa (λh=>by simp at h) (λ_=>?_);unfold WrD.sv opnW;rw[e];rfl
 .rw[List.concat_eq_append]at e;have a:l.length<=1000000:=Vg;rw[e,Zha p a];refine Zaa (λ_=>⟨sg_in l p,sg_in l p,_,_,_,_,_,_,_,Ze0 l p,?_⟩) (λh=>by simp at h<;>omega)
  simp_all[Zau,WrD.sv,opnW]
def slP_le{n s a:Int}(b:n<=9223372036854775807)(c:s<=9223372036854775807)(d:a<=9223372036854775807):(slP n s a).length<=30:=by
 have e:(leb n.toNat).length<=10:=Cod.leb_small;have f:(leb s.toNat).length<=10:=Cod.leb_small;have b3:(leb a.toNat).length<=10:=Cod.leb_small
 grind [slP]
def wseal_fn(w:WrD)(l:List SgD)(p:SgD)(d:w.j.sg=l++[p])(e:ctxB w.j.cx.s w.j.cx.a w.j.cx.m=true)(q:p.fi<=p.la)(t:0<=p.fi)(u:p.la<=9223372036854775807)(v:l.length<=100000)(x:w.td.length<=100000)(y:0<=p.sz/\p.sz<=100000000)(z:0<=w.sz/\w.sz<=100000000):
  Ct prog 72 sgW [w.sv] (λr=>r=[B true,(sealW w l p).sv]):=by
 have i:=(Zbf.1 e).1;have k:=slP_le (n:=p.la-p.fi) (s:=w.j.cx.s) (a:=w.j.cx.a) Vo Vo Vo;have f:Byts (selB w.j p):=Zjk Vo Vo (Zv8 _ _ _);have o:(selB w.j p).length<=40:=(by grind [Zgg,selB]);refine wseal_nf ?_;rw[d,Zha p];refine⟨sg_in l p,sg_in l p,_,_,_,_,_,_,_,Ze0 l p,sg_in l p,_,_,_,_,_,_,_,Ze0 l p,?_⟩
 dsimp only
 rw[Zar];have c:=sseal2_fn (p.la-p.fi) w.j.cx.s w.j.cx.a w.j.cx.m Vo;rw[if_pos ⟨e,Vo⟩]at c;refine Cl.of c ⟨_,_,rfl,Zaa (λh=>by simp at h) (λ_=>?_)⟩;have b:=Ztc w l p d (selB w.j p) f Vo Vo Vo Vo Vo;unfold WrD.sv at b;rw[d]at b;refine Cl.of b ⟨_,_,_,_,_,_,_,_,_,_,_,_,_,_,_,_,_,_,rfl,?_⟩;have g:(putW w l p (selB w.j p)).j.sg=l++[{p with sz:=p.sz+(selB w.j p).length}]:=rfl
 dsimp only
 rw[g];refine⟨sg_in l _,_,_,_,_,_,_,_,Ze0 l _,Cl.of (Zc3 _) ⟨_,rfl,Cl.of (Zhy _) ⟨_,_,rfl,?_,sg_in l _,_,_,_,_,_,_,_,Ze0 l _,?_⟩⟩⟩
 .simp[putW];omega
 .have e1:=tR_app (putW w l p (selB w.j p)).td (.syn (nmG p.num))
  grind [e1,e2,WrD.sv,sealW,putW,List.append_assoc,Stp.row,SgD.row,Zvu]
def sgW_snoc(l:List SgD)(p:SgD):rapp (sgR l) [p.row]=sgR (l++[p]):=by simp[rapp]
def wbeg_go(w:WrD)(n:Int)(E:nxtN w=n)(o:ctxOK w.j.st.q w.j.st.t)(hl:w.j.sg.length<=100000)(hf:w.j.dk.fs.length<=100000)(ht:w.td.length<=100000)(hs:0<=w.sz/\w.sz<=100000000){Q:List SV->Prop}(k:Q (match begW w with|none=>[B false,w.sv]|some v=>[B true,v.sv])):
  Cl prog 88 sP [I n] (λ(F:List SV)=>ej2 F λs=>(ifB (bpick (seq s (bA [])) true (igt (wadd IntKind.i64 (rlen (fR w.j.dk.fs)) 1) 64)) (Q ([B false,wr18 (fR w.j.dk.fs) w.j.dk.rm w.j.dk.st w.j.dk.dn w.j.cb w.j.cg (sgR w.j.sg) w.j.cx.s w.j.cx.a (nR w.j.cx.m) (coR w.j.st.cs) w.j.st.q w.j.st.t w.j.sure w.j.kept w.j.shut (tR w.td) w.sz])) (Cl prog 141 (Sig.mk [] [Md.own,Md.pure]) ([I n,cx3 w.j.st.q w.j.st.t []]) (λ(p:List SV)=>ej7 p λl x=>(ifB (ine x 0) (Q ([B false,wr18 (fR w.j.dk.fs) w.j.dk.rm w.j.dk.st w.j.dk.dn w.j.cb w.j.cg (sgR w.j.sg) w.j.cx.s w.j.cx.a (nR w.j.cx.m) (coR w.j.st.cs) w.j.st.q w.j.st.t w.j.sure w.j.kept w.j.shut (tR w.td) w.sz])) (Cl prog 142 sP [S s] (λ(r:List SV)=>ej0 r λf d=>(((lsum (rlen (tR w.td)) (rlen ([[SV.clo f d]])))<=((2147483648:Int)))/\(((lsum (rlen (sgR w.j.sg)) (rlen ([[I n,I w.j.st.q,I w.j.st.q,I w.j.st.t,I w.j.st.t,I 0,B false]])))<=((2147483648:Int)))/\(Cl prog 140 sgP ([wr18 (fR w.j.dk.fs) w.j.dk.rm w.j.dk.st w.j.dk.dn w.j.cb w.j.cg (rapp (sgR w.j.sg) ([[I n,I w.j.st.q,I w.j.st.q,I w.j.st.t,I w.j.st.t,I 0,B false]])) w.j.cx.s w.j.cx.a (nR w.j.cx.m) (coR w.j.st.cs) w.j.st.q w.j.st.t w.j.sure w.j.kept w.j.shut (rapp (tR w.td) ([[SV.clo f d]])) w.sz,SL 1 l]) (λ(u:List SV)=>ej8 u λG H J b K L M x5 x6 l3 N O P R y T U z=>(Q ([B true,wr18 G H J b K L M w.j.st.q w.j.st.t [] N O P R y T U z]))))))))))))):=by
 have C:rlen (fR w.j.dk.fs)=w.j.dk.fs.length:=Vs;rw[C,Zab];have V:∀s:BA,seq s (bA [])=decide (s=ByteArray.mk #[]):=λs=>by rw[seq_eq,Zwa]
 have g:inN n->nmG n≠ByteArray.mk #[]:=λh e=>by
  grind [Zch,Zfx]
 refine Cl.of (Zc3 n) ⟨_,rfl,?_⟩
 dsimp only
 rw[V];refine Zaa (λh=>?_) (λh=>?_)
 .have:begW w=none:=by
   unfold begW;rw[E,if_pos];by_cases c:inN n
   .have:=g c
    have h':64<(w.j.dk.fs.length:Int)+1:=by
     simp_all
    omega
   grind
  rw[this]at k;exact k
 have c:inN n:=Classical.byContradiction λq=>by
  simp_all[nmG,nmG_no]
 have Z:¬64<w.j.dk.fs.length+1:=by have:=g c;unfold nmG at this;simp[this]at h;omega
 have W:begW w=some ⟨{w.j with sg:=w.j.sg++[⟨n,w.j.st.q,w.j.st.q,w.j.st.t,w.j.st.t,(hedB w.j n).length,false⟩],cx:=⟨w.j.st.q,w.j.st.t,[]⟩},w.td++[.cre (nmG n),.wri (nmG n) (bys (hedB w.j n))],w.sz+(hedB w.j n).length⟩:=by
  grind [begW]
 rw[W]at k;obtain⟨A,Y⟩:=Zue (j:=w.j) c o;have i:=shead_fn n w.j.st.q w.j.st.t [] Vs;have X:headE n w.j.st.q w.j.st.t []=(hedB w.j n,0):=(by unfold headE;rw[if_neg (by have:=c.1;have:=c.2;omega),if_neg (by simp[o])];rfl);rw[X]at i;refine Cl.of i ⟨_,_,rfl,Zaa (λh=>by simp at h) (λ_=>Cl.of (Zxu _) ⟨_,_,rfl,?_,?_,?_⟩)⟩
 .simp;omega
 .simp;omega
 have e1:=tR_app w.td (.cre (nmG n));have e2:=sgW_snoc w.j.sg ⟨n,w.j.st.q,w.j.st.q,w.j.st.t,w.j.st.t,0,false⟩;unfold Stp.row nmG at e1;unfold SgD.row at e2
 dsimp only at e1 e2|-
 rw[e1,e2];have D:=Ztc ⟨{w.j with sg:=w.j.sg++[⟨n,w.j.st.q,w.j.st.q,w.j.st.t,w.j.st.t,0,false⟩]},w.td++[.cre (Sgr.segNm n)],w.sz⟩ w.j.sg _ rfl (hedB w.j n) A Vo Vm Vo Vs (by dsimp only;omega);refine Cl.of D ⟨_,_,_,_,_,_,_,_,_,_,_,_,_,_,_,_,_,_,rfl,?_⟩
 simp_all[WrD.sv,putW,List.append_assoc,Y4,List.nil_append,List.map_nil,Wc]
def wbegin_fn(w:WrD)(k:∀l p,w.j.sg=l++[p]->0<=p.num/\p.num<=99999999)(c:ctxOK w.j.st.q w.j.st.t)(d:w.j.sg.length<=100000)(f:w.j.dk.fs.length<=100000)(g:w.td.length<=100000)(i:0<=w.sz/\w.sz<=100000000):
  Ct prog 75 sgW [w.sv] (λr=>r=match begW w with|none=>[B false,w.sv]|some v=>[B true,v.sv]):=by
 refine wbegin_nf ?_
 rcases Y2 w.j.sg with e|⟨l,p,e⟩
 .have b:nxtN w=1:=(by unfold nxtN;rw[e];rfl);have h:=wbeg_go w 1 b c d f g i (Q:=λr=>r=match begW w with|none=>[B false,w.sv]|some v=>[B true,v.sv]) rfl
  simp_all[Zaa]
 .rw[List.concat_eq_append]at e;have b:nxtN w=p.num+1:=(by grind [Zau,nxtN]);have n:=k l p e;have h:=wbeg_go w (p.num+1) b c d f g i (Q:=λr=>r=match begW w with|none=>[B false,w.sv]|some v=>[B true,v.sv]) rfl;have m:l.length<=100000:=Vg;rw[<-Zab]at h;refine Zaa (λ_=>?_) (λh=>by rw[e]at h;simp at h<;>omega);have a:inR (wsub IntKind.i64 (rlen (sgR w.j.sg)) 1) (sgR w.j.sg):=by rw[e,Zha p];exact sg_in l p
  exact⟨a,a,_,_,_,_,_,_,_,by rw[e,Zha p];exact Ze0 l p,h⟩
def Ztd{j:JoD}{e:Cod.EvD}(h:encE j.cx.s j.cx.a j.cx.m e=0):Byts (recL' j e)/\(recL' j e).length<=127:=by
 have:=Zh8 (Zc7.1 h)
 grind [Zgg,recL',Zjk,Zi6]
def wrec_fn(w:WrD)(e:Cod.EvD)(l:List SgD)(p:SgD)(T:w.j.sg=l++[p])(hl:l.length<=100000)(ht:w.td.length<=100000)(hp:0<=p.sz/\p.sz<=100000000)(hs:0<=w.sz/\w.sz<=100000000):
  Ct prog 76 sgW [w.sv,e.sv] (λr=>r=match recW w e with|none=>[B false,w.sv]|some v=>[B true,v.sv]):=by
 have u:=Zuw w.j.cx.s w.j.cx.a w.j.cx.m e;unfold addR at u
 have C:∀Q:List SV->Prop,Q (match recW w e with|none=>[B false,w.sv]|some v=>[B true,v.sv])->Cl prog 138 sP ([cx3 w.j.cx.s w.j.cx.a (nR w.j.cx.m),ev7 e.s e.a e.k e.c e.x e.y e.z]) (λ(U:List SV)=>ej6 U λl x V W X=>(ifB (ine X 0) (Q ([B false,wr18 (fR w.j.dk.fs) w.j.dk.rm w.j.dk.st w.j.dk.dn w.j.cb w.j.cg (sgR w.j.sg) w.j.cx.s w.j.cx.a (nR w.j.cx.m) (coR w.j.st.cs) w.j.st.q w.j.st.t w.j.sure w.j.kept w.j.shut (tR w.td) w.sz])) (Cl prog 140 sgP ([wr18 (fR w.j.dk.fs) w.j.dk.rm w.j.dk.st w.j.dk.dn w.j.cb w.j.cg (sgR w.j.sg) w.j.cx.s w.j.cx.a (nR w.j.cx.m) (coR w.j.st.cs) w.j.st.q w.j.st.t w.j.sure w.j.kept w.j.shut (tR w.td) w.sz,SL 1 l]) (λ(E:List SV)=>ej8 E λY Z x4 b x5 x6 d x7 x8 l4 l5 x9 F G H b1 l6 J=>((inR (wsub IntKind.i64 (rlen d) 1) d)/\((inR (wsub IntKind.i64 (rlen d) 1) d)/\(ej5 (rget d (wsub IntKind.i64 (rlen d) 1)) λf g a0 i n o D=>((inR (wsub IntKind.i64 (rlen d) 1) (rset d (wsub IntKind.i64 (rlen d) 1) [I f,I g,I e.s,I i,I n,I o,B D]))/\(ej5 (rget (rset d (wsub IntKind.i64 (rlen d) 1) [I f,I g,I e.s,I i,I n,I o,B D]) (wsub IntKind.i64 (rlen d) 1)) λK L M N a1 O b3=>(Q ([B true,wr18 Y Z x4 b x5 x6 (rset (rset d (wsub IntKind.i64 (rlen d) 1) [I f,I g,I e.s,I i,I n,I o,B D]) (wsub IntKind.i64 (rlen d) 1) [I K,I L,I M,I N,I e.a,I O,B b3]) x V W l5 x9 F G H b1 l6 J]))))))))))):=by
  intro Q A;by_cases hE:encE w.j.cx.s w.j.cx.a w.j.cx.m e=0
  rotate_left
  .rw[if_neg hE]at u;have:recW w e=none:=(by grind [Zau,recW]);rw[this]at A;exact Cl.of u ⟨_,_,_,_,_,rfl,Zaa (λ_=>A) (λh=>by simp at h;exact absurd h hE)⟩
  rw[if_pos hE]at u;obtain⟨P,a2⟩:=Ztd hE
  have hr:recW w e=some ⟨{w.j with sg:=l++[{p with sz:=p.sz+(recL' w.j e).length,la:=e.s,ti:=e.a}],cx:=⟨e.s,e.a,bhdN w.j.cx.m e.c⟩},w.td++[.wri (nmG p.num) (bys (recL' w.j e))],w.sz+(recL' w.j e).length⟩:=by
   grind [Zau,recW]
  rw[hr]at A;refine Cl.of u ⟨_,_,_,_,_,rfl,Zaa (λh=>by simp at h) (λ_=>Cl.of (Ztc w l p T (recL' w.j e) P Vo Vo Vo Vo Vo) ⟨_,_,_,_,_,_,_,_,_,_,_,_,_,_,_,_,_,_,rfl,?_⟩)⟩;have R:(putW w l p (recL' w.j e)).j.sg=l++[{p with sz:=p.sz+(recL' w.j e).length}]:=rfl
  dsimp only
  rw[R,Zha _];refine⟨sg_in l _,sg_in l _,_,_,_,_,_,_,_,Ze0 l _,?_⟩;have e1:=Zvu l {p with sz:=p.sz+(recL' w.j e).length} {p with sz:=p.sz+(recL' w.j e).length,la:=e.s};unfold SgD.row at e1
  dsimp only at e1|-
  rw[e1];refine⟨sg_in l _,_,_,_,_,_,_,_,Ze0 l _,?_⟩;have e2:=Zvu l {p with sz:=p.sz+(recL' w.j e).length,la:=e.s} {p with sz:=p.sz+(recL' w.j e).length,la:=e.s,ti:=e.a};unfold SgD.row at e2
  dsimp only at e2|-
  rw[e2];exact A
 exact wrec_nf ⟨C (λr=>r=match recW w e with|none=>[B false,w.sv]|some v=>[B true,v.sv]) rfl,C (λr=>r=match recW w e with|none=>[B false,w.sv]|some v=>[B true,v.sv]) rfl⟩
def jover_fn(j:JoD)(e:Cod.EvD)(t:j.sg.length<=100000)(i:∀p∈j.sg,0<=p.sz/\p.sz<=1000000000/\0<=p.fr/\p.fr<=1099511627776)(u:0<=e.a/\e.a<=9223372036854775807):Ct prog 71 {} [j.sv,e.sv] (λr=>r=[B (ovrB j e)]):=by
 refine jover_nf ?_
 rcases Y2 j.sg with h|⟨l,p,h⟩
 .have:ovrB j e=false:=by unfold ovrB;rw[h];rfl
  simp_all[Zaa]
 rw[List.concat_eq_append]at h;have o:l.length<=100000:=Vg;have v:=i p (by rw[h];simp);have d:inR (wsub IntKind.i64 (rlen (sgR j.sg)) 1) (sgR j.sg):=by rw[h,Zha p];exact sg_in l p
 have c:ovrB j e=if p.sl=true\/p.la<=p.fi then false else if encE j.cx.s j.cx.a j.cx.m e≠0\/j.cb<p.sz+(recL' j e).length then true else decide (j.cg<e.a-p.fr):=(by grind [Zau,ovrB]);have b:=Zuw j.cx.s j.cx.a j.cx.m e
 unfold addR at b;refine Zaa (λg=>by rw[h]at g;simp at g<;>omega) (λ_=>⟨d,_,_,_,_,_,_,_,by rw[h,Zha p];exact Ze0 l p,Zaa (λg=>?_) (λg=>?_)⟩)
 .have g:p.sl=true\/p.la<=p.fi:=by simp_all
  grind
 have g:¬(p.sl=true\/p.la<=p.fi):=(by simp_all);rw[if_neg g]at c;by_cases hE:encE j.cx.s j.cx.a j.cx.m e=0
 rotate_left
 .rw[if_neg hE]at b;rw[if_pos (.inl hE)]at c;exact Cl.of b ⟨_,_,_,_,_,rfl,Zaa (λ_=>by rw[c]) (λq=>by simp[hE]at q)⟩
 rw[if_pos hE]at b;obtain⟨k,n⟩:=Ztd hE;have f:rlen (bR (fr 2 (encL j.cx.s j.cx.a j.cx.m e)))=(recL' j e).length:=(by simp[recL']);refine Cl.of b ⟨_,_,_,_,_,rfl,?_⟩
 dsimp only
 rw[f,Zab,Zar];refine Zaa (λq=>?_) (λq=>?_)
 .simp_all
 .have q:¬j.cb<p.sz+(recL' j e).length:=by simpa using q
  simp_all
structure WB(w:WrD)(j:JoD)(n:Nat):Prop where
 dk:w.j.dk=j.dk
 st:w.j.st=j.st
 len:w.j.sg.length<=n
 td:w.td.length<=n
 sz:0<=w.sz/\w.sz<=n
 ps:∀p∈w.j.sg,(0<=p.sz/\p.sz<=65536+n)/\(1<=p.num/\p.num<=99999999)
 ok:∀s∈w.td,s.ok
def wri_ok(h:x.length<=1000):(Stp.wri s (bys x)).ok:=by
 show(bys x).length<=_;unfold bys;rw[List.length_map];omega
def selB_len(h:Fct J){p:SgD}(b:p∈J.sg):(selB J p).length<=40:=by
 have c:=(Zbf.1 h.cx).1;have d:=h.ps p b;have:=slP_le (n:=p.la-p.fi) (s:=J.cx.s) (a:=J.cx.a) Vo Vo Vo;unfold selB;rw[Zgg];omega
def w0_B(h:Fct J):WB (w0 J) J 64:=
 ⟨rfl,rfl,h.len,by simp[w0],by simp[w0],λp a=>by have:=h.ps p a;exact⟨Vo,this.2.1⟩,λs b=>by simp[w0]at b⟩
def seal_B(h:Fct J){l:List SgD}{p:SgD}(a:J.sg=l++[p]):WB (sealW (w0 J) l p) J 110:=by
 have d:=selB_len h (p:=p) (by rw[a];simp);have c:=h.len;rw[a]at c;simp at c;have e:=h.ps p (by rw[a];simp);refine⟨rfl,rfl,by simp[sealW];omega,by simp[sealW,w0],?_,?_,?_⟩
 .have:(sealW (w0 J) l p).sz=0+((selB J p).length:Int):=rfl;omega
 .intro q b;have b:q∈l++[{p with sz:=p.sz+(selB J p).length,sl:=true}]:=b
  rcases List.mem_append.1 b with b|b
  .have:=h.ps q (by rw[a];simp[b]);exact⟨Vo,this.2.1⟩
  .have:q={p with sz:=p.sz+(selB J p).length,sl:=true}:=(by simpa using b);subst this
   dsimp only;omega
 .intro s a;have a:s∈([]:List Stp)++[.wri (nmG p.num) (bys (selB J p)),.syn (nmG p.num)]:=a;simp at a
  rcases a with rfl|rfl
  .exact wri_ok Vo
  .trivial
def w1_B(h:Fct J)(e:Cod.EvD):WB (w1 J e) J 110:=by
 have a:WB (w0 J) J 110:=(by have:=w0_B h;exact⟨this.dk,this.st,by have:=this.len;omega,by have:=this.td;omega,by have:=this.sz;omega,λp b=>by have:=this.ps p b;omega,this.ok⟩);unfold w1
 rcases Y2 J.sg with hs|⟨l,p,hs⟩
 .rw[hs];exact a
 .rw[List.concat_eq_append]at hs;rw[hs,Zau]
  dsimp only
  split
  .exact seal_B h hs
  .exact a
def w2_B{j:JoD}(h:Fct j)(e:Cod.EvD){w:WrD}(c:w2 j e=some w):WB w j 170/\∃l p,w.j.sg=l++[p]:=by
 have a:=w1_B h e;unfold w2 at c
 split at c
 next g=>
  cases c
  refine⟨⟨a.dk,a.st,by have:=a.len;omega,by have:=a.td;omega,by have:=a.sz;omega,λp i=>by have:=a.ps p i;omega,a.ok⟩,?_⟩
  rcases Y2 (w1 j e).j.sg with b|⟨l,p,b⟩
  .unfold opnW at g;rw[b]at g;cases g
  .exact⟨l,p,by rw[b,List.concat_eq_append]⟩
 .unfold begW at c
  split at c
  .cases c
  rename_i k
  cases c
  have f:inN (nxtN (w1 j e)):=Classical.byContradiction λq=>k (.inl q);have n:=(Zue (j:=(w1 j e).j) f (by rw[a.st];exact Zvr h.st)).2;have m:=a.sz;refine⟨⟨a.dk,a.st,by have:=a.len;simp;omega,by have:=a.td;simp;omega,by dsimp only;omega,?_,?_⟩,_,_,rfl⟩
  .intro q d
   rcases List.mem_append.1 d with d|d
   .have:=a.ps q d;omega
   .have:q=_:=List.mem_singleton.1 d;subst this;exact⟨by dsimp only;omega,f⟩
  .intro s b
   rcases List.mem_append.1 b with b|b
   .exact a.ok s b
   .simp at b
    rcases b with rfl|rfl
    .trivial
    .exact wri_ok Vo
def rec_B{w v:WrD}{j:JoD}(h:WB w j 170){e:Cod.EvD}(b:recW w e=some v):WB v j 300:=by
 rcases Y2 w.j.sg with a|⟨l,p,a⟩
 .unfold recW at b;rw[a]at b;cases b
 rw[List.concat_eq_append]at a;unfold recW at b;rw[a,Zau]at b
 dsimp only at b
 split at b
 .cases b
 rename_i f
 cases b
 have i:=(Ztd (j:=w.j) (e:=e) (by simpa using f)).2;have d:=h.len;rw[a]at d;simp at d;have k:=h.ps p (by rw[a];simp);have g:=h.sz;refine⟨h.dk,h.st,Vm,by have:=h.td;simp;omega,by dsimp only;omega,?_,?_⟩
 .intro q c
  rcases List.mem_append.1 c with c|c
  .have:=h.ps q (by rw[a];simp[c]);omega
  .have:q=_:=List.mem_singleton.1 c;subst this
   dsimp only;omega
 .intro s a
  rcases List.mem_append.1 a with a|a
  .exact h.ok s a
  .simp at a;subst a;exact wri_ok Vo
def Zwh(l:List SgD)(h:l.length<=1000000):Ct prog 70 ⟨[],[.own]⟩ [SL 7 (sgR l)] (λr=>r=[SL 7 (sgR l)]):=by
 refine segcl_nf (λb a=>Zaa (λe=>?_) (λe=>⟨?_,?_⟩))
 .have:=a e;have:l=[]:=(by simpa using this);rw[this];rfl
 .simp;omega
 .simp[rapp]
def Zwi(j:JoD):Ct prog 73 {} [j.sv] (λr=>r=[(shtJ j).1.sv,I 13]):=jshut_nf rfl
def japp_fn(j:JoD)(T:j.ok)(e:Cod.EvD)(he: -9223372036854775808<=e.a/\e.a<=9223372036854775807):Ct prog 20 {} [j.sv,e.sv] (λr=>r=[(appP j e).1.sv,I (appP j e).2]):=by
 refine Zyy (Cl.of (jmay_fn j T) ⟨_,rfl,Zaa (λg=>?_) (λg=>?_)⟩)
 .have g:mayJ j≠0:=(by simpa using g);unfold appP;rw[if_pos g];rfl
 have g:mayJ j=0:=(by simpa using g);have hR:=Zbz.1 g;have f:=hR.fct;have hst:=f.st.1;have eP:appP j e=appQ j e:=(by unfold appP;rw[if_neg (by simp[g])]);rw[eP];have hw:wadd IntKind.i64 j.st.q 1=j.st.q+1:=Zab;rw[hw];refine Cl.of (Zqy j.st Vo (toE (evN j e))) ⟨_,_,_,_,rfl,Zaa (λg=>?_) (λg=>Zaa (λz=>?_) (λz=>?_))⟩
 .have g:(appS j.st (toE (evN j e))).2≠0:=(by simpa using g);unfold appQ;rw[if_pos g];rfl
 .have g:¬(appS j.st (toE (evN j e))).2≠0:=(by simpa using g);unfold appQ;rw[if_neg g,if_pos z];rfl
 have g:(appS j.st (toE (evN j e))).2=0:=by simpa using g
 have eQ:appQ j e=match w3 j (evN j e)with|none=>shtJ j|some w=>endJ j (appS j.st (toE (evN j e))).1 w:=by unfold appQ;rw[if_neg (by simp[g]),if_neg (by simp[z])];rfl
 have a0:0<=e.a:=(by have:=(appS_may g).tm;have h2:j.st.t<=(toE (evN j e)).a:=this;have:(toE (evN j e)).a=e.a:=rfl;omega);have R:w3 j (evN j e)=none->Cl prog 73 sP [j.sv] (λrs=>ej19 rs λG i k b3 m n H o s J u x y A C K D=>[jr16 G i k b3 m n H o s J u x y A C K,I D]=[(appQ j e).1.sv,I (appQ j e).2]):=λq=>by rw[eQ,q];exact Cl.of (Zwi j) ⟨_,_,_,_,_,_,_,_,_,_,_,_,_,_,_,_,_,rfl,rfl⟩
 have h:=w1_B f (evN j e);refine Cl.of (Zwh j.sg T.sg) ⟨_,rfl,?_⟩;refine⟨λb Z x4 x5 b1 x6 x7 l3 x8 x9 l4 l5 L M N O b2 l6 P=>b=false/\wr18 Z x4 x5 b1 x6 x7 l3 x8 x9 l4 l5 L M N O b2 l6 P=(w1 j (evN j e)).sv,λ_ _ _ _ _ _ _ _ _ _ _ _ _ _ _ _ _ _ _=>0,?_,?_⟩
 .refine Cl.of (jover_fn j (evN j e) (by have:=f.len;omega) (λp U=>by have:=f.ps p U;omega) ⟨a0,he.2⟩) ⟨_,rfl,Zaa (λq=>?_) (λq=>⟨rfl,rfl,?_⟩)⟩
  .rcases Y2 j.sg with c|⟨l,p,c⟩
   .unfold ovrB at q;rw[c]at q;cases q
   rw[List.concat_eq_append]at c;have U:=f.ps p (by rw[c];simp);have F:=f.len;rw[c]at F;simp at F;have:w1 j (evN j e)=sealW (w0 j) l p:=by unfold w1;rw[c,Zau];simp[q]
   rw[this];exact Cl.of (wseal_fn (w0 j) l p c f.cx Vo Vo Vo Vo (by simp[w0]) Vo (by simp[w0])) ⟨_,_,_,_,_,_,_,_,_,_,_,_,_,_,_,_,_,_,_,rfl,rfl,rfl,rfl⟩
  .have:w1 j (evN j e)=w0 j:=by
    unfold w1
    rcases Y2 j.sg with c|⟨l,p,c⟩
    .rw[c];rfl
    .rw[c,List.concat_eq_append,Zau];simp[q]
   rw[this];rfl
 rintro b Z x4 x5 b1 x6 x7 l3 x8 x9 l4 l5 L M N O b2 l6 P ⟨rfl,hv⟩;rw[hv];refine Zaa (λq=>by cases q) (λ_=>?_);refine⟨λb3 G i k K m n H o s J u x y A C b5 Q D=>match w2 j (evN j e)with|none=>b3=true|some v=>b3=false/\wr18 G i k K m n H o s J u x y A C b5 Q D=v.sv,λ_ _ _ _ _ _ _ _ _ _ _ _ _ _ _ _ _ _ _=>0,?_,?_⟩
 .refine Cl.of (wopen_fn (w1 j (evN j e)) (by have:=h.len;omega)) ⟨_,_,_,_,_,_,_,_,_,_,_,_,_,_,_,_,_,_,_,rfl,Zaa (λq=>?_) (λq=>⟨rfl,?_⟩)⟩
  .have q:opnW (w1 j (evN j e))=false:=(by simpa using q);have e2:w2 j (evN j e)=begW (w1 j (evN j e)):=(by unfold w2;rw[if_neg (by simp[q])]);have hb:=wbegin_fn (w1 j (evN j e)) (λl p c=>by have:=h.ps p (by rw[c];simp);omega) (by rw[h.st];exact Zvr f.st) (by have:=h.len;omega) (by rw[h.dk];have:=f.fs;omega) (by have:=h.td;omega) (by have:=h.sz;omega);refine Cl.ofQ hb ?_;rintro r rfl;rw[e2]
   cases begW (w1 j (evN j e))with
   |none=>exact⟨_,_,_,_,_,_,_,_,_,_,_,_,_,_,_,_,_,_,_,rfl,rfl,rfl⟩
   |some v=>exact⟨_,_,_,_,_,_,_,_,_,_,_,_,_,_,_,_,_,_,_,rfl,rfl,rfl,rfl⟩
  .have q:opnW (w1 j (evN j e))=true:=(by simpa using q);have e2:w2 j (evN j e)=some (w1 j (evN j e)):=(by unfold w2;rw[if_pos q]);rw[e2];exact⟨rfl,rfl⟩
 rintro b3 G i k K m n H o s J u x y A C b5 Q D d
 cases hw2:w2 j (evN j e)with
 |none=>rw[hw2]at d;have d:b3=true:=d;subst d;exact Zaa (λ_=>R (by unfold w3;rw[hw2])) (λq=>by cases q)
 |some w=>
  rw[hw2]at d;obtain⟨rfl,d⟩:=d;rw[d];obtain⟨E,l,p,c⟩:=w2_B f _ hw2;have e3:w3 j (evN j e)=recW w (evN j e):=by unfold w3;rw[hw2]
  have F:=E.len;rw[c]at F;simp at F;have U:=E.ps p (by rw[c];simp);refine Zaa (λq=>by cases q) (λ_=>?_);have V:=wrec_fn w (evN j e) l p c Vo (by have:=E.td;omega) Vo (by have:=E.sz;omega);refine Cl.ofQ V ?_;rintro r rfl
  cases hr:recW w (evN j e)with
  |none=>refine⟨_,_,_,_,_,_,_,_,_,_,_,_,_,_,_,_,_,_,_,rfl,Zaa (λ_=>R (by rw[e3,hr])) (λq=>by simp at q)⟩
  |some v=>
   have W:=rec_B E hr;have X:=T.dk;have hu:=X.1;have Y:appQ j e=endJ j (appS j.st (toE (evN j e))).1 v:=(by rw[eQ,e3,hr]);have a1:=W.sz;refine⟨_,_,_,_,_,_,_,_,_,_,_,_,_,_,_,_,_,_,_,rfl,Zaa (λq=>by simp at q) (λ_=>Cl.of (Zkw j.dk X) ⟨_,rfl,?_⟩)⟩
   dsimp only
   rw[Zab];refine Zaa (λq=>?_) (λq=>?_)
   .have q:j.dk.rm<usedL j.dk.fs+v.sz:=(by simpa using q);have:endJ j (appS j.st (toE (evN j e))).1 v=shtJ j:=(by unfold endJ;rw[if_pos q]);rw[Y,this];exact Cl.of (Zwi j) ⟨_,_,_,_,_,_,_,_,_,_,_,_,_,_,_,_,_,rfl,rfl⟩
   .have q:¬j.dk.rm<usedL j.dk.fs+v.sz:=(by simpa using q);refine Cl.of (Zs0 j.dk X v.td W.ok (by have:=W.td;omega)) ⟨_,_,_,_,_,rfl,Zaa (λz=>?_) (λz=>?_)⟩
    .have z:(runP j.dk v.td).2≠0:=(by simpa using z);have:endJ j (appS j.st (toE (evN j e))).1 v=({j with dk:=(runP j.dk v.td).1},(runP j.dk v.td).2):=(by unfold endJ;rw[if_neg q,if_pos z]);rw[Y,this];rfl
    .have z:¬(runP j.dk v.td).2≠0:=(by simpa using z);have:endJ j (appS j.st (toE (evN j e))).1 v=({v.j with dk:=(runP j.dk v.td).1,st:=(appS j.st (toE (evN j e))).1},0):=(by unfold endJ;rw[if_neg q,if_neg z]);rw[Y,this];rfl
def jsyn_fn(j:JoD)(k:j.ok):Ct prog 22 {} [j.sv] (λr=>r=[(synJ j).1.sv,I (synJ j).2]):=by
 refine jsyn_nf (Cl.of (jmay_fn j k) ⟨_,rfl,Zaa (λg=>?_) (λg=>?_)⟩)
 .have g:mayJ j≠0:=(by simpa using g);unfold synJ;rw[if_pos g];rfl
 have g:mayJ j=0:=(by simpa using g);have n:=(Zbz.1 g).fct;have o:synJ j=synQ j:=(by unfold synJ;rw[if_neg (by simp[g])]);rw[o]
 rcases Y2 j.sg with e|⟨l,p,e⟩
 .have:synQ j=({j with sure:=j.st.q},0):=(by unfold synQ;rw[e];rfl);rw[this];exact Zaa (λq=>by rw[e]at q;simp at q) (λ_=>rfl)
 rw[List.concat_eq_append]at e;have m:=n.len;rw[e]at m;simp at m;have f:synQ j=if p.sl=true then({j with sure:=j.st.q},0)else if(Zat j.dk (nmG p.num)).2≠0 then({j with dk:=(Zat j.dk (nmG p.num)).1},(Zat j.dk (nmG p.num)).2)else({j with dk:=(Zat j.dk (nmG p.num)).1,sure:=j.st.q},0):=by unfold synQ;rw[e,Zau]
 have h:inR (wsub IntKind.i64 (rlen (sgR j.sg)) 1) (sgR j.sg):=(by rw[e,Zha p];exact sg_in l p);have i:rget (sgR j.sg) (wsub IntKind.i64 (rlen (sgR j.sg)) 1)=p.row:=(by rw[e,Zha p];exact Ze0 l p);refine Zaa (λ_=>⟨h,_,_,_,_,_,_,_,i,Zaa (λq=>?_) (λq=>?_)⟩) (λq=>by rw[e]at q;simp at q<;>omega)
 .have q:p.sl=false:=(by simpa using q);rw[if_neg (by simp[q])]at f;have d:=Zs0 j.dk k.dk [.syn (nmG p.num)] (λs e=>by simp at e;subst e;trivial) Vs;rw[run1]at d;refine⟨λx l a b c=>x=(Zat j.dk (nmG p.num)).2/\dk4 l a b c=(Zat j.dk (nmG p.num)).1.sv,λ_ _ _ _ _=>0,⟨h,_,_,_,_,_,_,_,i,?_⟩,?_⟩
  .exact⟨Cl.of (Zc3 _) ⟨_,rfl,⟨Cl.of (Zhy _) ⟨_,_,rfl,⟨⟨Cl.of d ⟨_,_,_,_,_,rfl,rfl,rfl,rfl⟩,Cl.of d ⟨_,_,_,_,_,rfl,rfl,rfl,rfl⟩⟩,Cl.of d ⟨_,_,_,_,_,rfl,rfl,rfl,rfl⟩⟩⟩,Cl.of (Zhy _) ⟨_,_,rfl,Cl.of d ⟨_,_,_,_,_,rfl,rfl,rfl,rfl⟩⟩⟩⟩,Cl.of (Zc3 _) ⟨_,rfl,Cl.of (Zhy _) ⟨_,_,rfl,Cl.of d ⟨_,_,_,_,_,rfl,rfl,rfl,rfl⟩⟩⟩⟩
  .rintro x l a b c ⟨rfl,hd⟩;simp only[SV.agg.injEq,List.cons.injEq,SV.val.injEq,Value.int.injEq,Value.bool.injEq,SV.slice.injEq,true_and,and_true]at hd;obtain⟨rfl,rfl,rfl,rfl⟩:=hd;refine Zaa (λz=>?_) (λz=>?_)
   .have z:(Zat j.dk (nmG p.num)).2≠0:=(by simpa using z);rw[f,if_pos z];rfl
   .have z:¬(Zat j.dk (nmG p.num)).2≠0:=(by simpa using z);rw[f,if_neg z];rfl
 .have q:p.sl=true:=(by simpa using q);rw[f,if_pos q];rfl
end Jou
namespace Jou
open Go Go.Px Go.Proofs Cod Tryz
abbrev en4(r:List SV)(K:Bool->Prop):Prop:=∃a:Bool,(r=[B a])/\K a
abbrev en5(r:List SV)(K:BA->Prop):Prop:=∃a:BA,(r=[S a])/\K a
def Zsj{rows:LL}{segs:LL}{n d g a:Int}(h:∃q:Bool->Int->Prop,∃m:Bool->Int->Nat,(q false 0)/\∀t x,(q t x)->ifB (ilt x (rlen r)) ((inR x r)/\en5 (rget r x) λs=>(ifB (igt (slen s) 100) (Q [B false]) ((sm ([[SL 3 rows,I c,I i,B o,I j,I k,SL 7 segs,I b,I e,SL 1 r,SL 21 l,I n,I d,I g,I a,B O]]))/\(q t (wadd .i64 x 1))/\Nl (m t (wadd .i64 x 1)) (m t x)))) (Cl prog 11 sP ([dk4 rows c i o]) (λv=>en4 v λw=>(ifB w (Cl prog 59 sP ([st3 l n d]) (λu=>en4 u λy=>(Q [B (bpick (bpick y (ile (rlen segs) 99) false) (ile (rlen r) 60) false)]))) (Q [B false]))))):Ct prog 18 {} [jr16 rows c i o j k segs b e r l n d g a O] Q:=
 fN SgT SvT func18 h
end Jou
namespace Jou
open Go Go.Px Go.Proofs Cod Seg Sgr Snp Sx Row Tryz
def ok_of(h:RightJ J)(hst:J.dk.st<=9223372036854775807):J.ok:=by
 have F:=h.fct;have L:=lim_P F.st;have b:J.cx.m.length<=32:=(Zcp.1 (Zbf.1 F.cx).2).1;have d:=h.dk.2.1;have e:=h.dk.1.2.2.1;have f:=F.fs;have g:=F.len;exact⟨⟨Vo,Vo,hst⟩,Vo,Vo,by have:=L.1;omega,λc a=>by have:=L.2 c a;omega⟩
def appP_q(a:RightJ J)(e:Cod.EvD):appP J e=appQ J e:=by unfold appP;rw[if_neg (by rw[Zbz.2 a];simp)]
def synJ_q{j:JoD}(a:RightJ j):synJ j=synQ j:=by unfold synJ;rw[if_neg (by rw[Zbz.2 a];simp)]
abbrev wD:DiD:=⟨[],900,-1,false⟩
abbrev wE(a k y:Int):Cod.EvD:=⟨0,a,k,⟨#[98]⟩,1,y,0⟩
def dk_nil:DkR [] []:=⟨by simp[Go.Px.srt],rfl,by simp[inRow],Vs⟩
def new_nil:newF []=none:=Zmy (by simp[Go.Px.srt]) (λf a=>by obtain⟨_,h,_⟩:=a;cases h)
end Jou
namespace Jou
open Go Go.Px Go.Proofs Cod Seg Sgr Snp Sx Row Dsk Tryz
def DiD.Sz(d:DiD):Prop:=d.fs.length<=140737488351232/\(∀f∈d.fs,f.su.length<=140737488351232/\f.lo.length<=140737488351232)/\d.st<=9223372036854775807
def Sz.ok{d:DiD}(h:DiD.Sz d)(i:d.fs.length<=70):d.ok:=by
 obtain⟨_,c,e⟩:=h
 have:∀l:List FiD,(∀f∈l,f.su.length<=140737488351232/\f.lo.length<=140737488351232)->usedL l<=l.length*281474976702464:=by
  intro l
  induction l with
  |nil=>intro _;simp[usedL]
  |cons a l g=>intro h;have:=g (λf b=>h f (by simp[b]));have:=h a Vs;rw[Zdp];simp only[FiD.len,List.length_cons];omega
 have:=this d.fs c;exact⟨Vo,Vo,e⟩
deriving instance DecidableEq for JoD
def runP_ok:∀(l:List Stp) {d:DiD},d.ok->(runP d l).1.ok
 | [],d,h=>h
 |s::l,d,h=>by
  have a:=Zvd (s:=s) h;unfold runP
  split
  .exact a
  .exact runP_ok l a
def openP_k(h:d.ok)(a b:Int):(openP d a b).1.dk.ok:=by
 have c:(menD d).1.ok:=runP_ok _ h;unfold openP
 repeat' split
 all_goals first|exact h|exact c
end Jou
namespace Jou
open Go Go.Px Go.Proofs Cod Tryz
abbrev kp0(r:List SV)(K:Bool->Prop):Prop:=∃a:Bool,(r=[B a])/\K a
abbrev kp1(r:List SV)(K:Int->Prop):Prop:=∃a:Int,(r=[I a])/\K a
abbrev kp2(r:List SV)(K:LL->Int->Int->Bool->Int->Int->LL->Int->Int->LL->LL->Int->Int->Int->Int->Bool->Int->Prop):Prop:=∃h:LL,∃i:Int,∃j:Int,∃k:Bool,∃l:Int,∃m:Int,∃n:LL,∃o:Int,∃p:Int,∃z9:LL,∃a:LL,∃b:Int,∃c:Int,∃d:Int,∃e:Int,∃f:Bool,∃g:Int,(r=[jr16 h i j k l m n o p z9 a b c d e f,I g])/\K h i j k l m n o p z9 a b c d e f g
abbrev kp3(r:List SV)(K:LL->Int->Int->Bool->Int->Prop):Prop:=∃a:LL,∃b:Int,∃c:Int,∃d:Bool,∃e:Int,(r=[dk4 a b c d,I e])/\K a b c d e
abbrev kp4(r:List SV)(K:Int->Int->Int->Int->Int->Int->Bool->Prop):Prop:=∃a:Int,∃b:Int,∃c:Int,∃d:Int,∃e:Int,∃f:Int,∃g:Bool,(r=[I a,I b,I c,I d,I e,I f,B g])/\K a b c d e f g
abbrev kp5(r:List SV)(K:BA->Prop):Prop:=∃a:BA,(r=[S a])/\K a
abbrev kp6(r:List SV)(K:LL->Prop):Prop:=∃a:LL,(r=[SL 1 a])/\K a
abbrev kp7(r:List SV)(K:Int->Bool->Prop):Prop:=∃a:Int,∃b:Bool,(r=[I a,B b])/\K a b
abbrev kp8(r:List SV)(K:LL->Prop):Prop:=∃a:LL,(r=[SL 7 a])/\K a
def kmay_nf{rows:LL}{segs:LL}{p q m g:Int}(h:Cl prog 46 sP ([dk4 rows i j o]) (λs=>kp0 s λa=>(ifB (bpick a o false) (Q [I 16]) (Cl prog 17 sP ([jr16 rows i j o b k segs c e l r p q m g O]) (λn=>kp0 n λt=>(ifB (bnot t) (Q [I 1]) (Q [I 0]))))))):Ct prog 103 {} [jr16 rows i j o b k segs c e l r p q m g O] Q:=
 fN SgT SvT func103 h
def ksnap_nf{rows:LL}{segs:LL}{q s n d:Int}(h:Cl prog 103 sP ([jr16 rows i j o k b segs c e l r q s n d O]) (λT=>kp1 T λx=>(ifB (ine x 0) (Q ([jr16 rows i j o k b segs c e l r q s n d O,I x])) (Cl prog 22 sP ([jr16 rows i j o k b segs c e l r q s n d O]) (λN=>kp2 N λp C D m E F G H J K u t v L w M y=>(ifB (ine y 0) (Q ([jr16 p C D m E F G H J K u t v L w M,I y])) (Cl prog 104 sP ([dk4 p C D m,st3 u t v]) (λg=>kp3 g λP z A R a=>(ifB (ieq a 13) (Q ([jr16 p C D m E F G H J K u t v L w M,I a])) (ifB (ine a 0) (Q ([jr16 P z A R k b segs c e l r q s n d O,I a])) (Q ([jr16 P z A R E F G H J K u t v L t M,I 0])))))))))))):Ct prog 41 {} [jr16 rows i j o k b segs c e l r q s n d O] Q:=
 fN SgT SvT func41 h
def Zy1{rows:LL}{segs:LL}{t u d a:Int}(h:Cl prog 103 sP ([jr16 rows i c o j k segs b e l r t u d a O]) (λrs=>kp1 rs λx=>(ifB (ine x 0) (Q ([jr16 rows i c o j k segs b e l r t u d a O,I x])) (ifB (ilt z 0) (Q ([jr16 rows i c o j k segs b e l r t u d a O,I 1])) (∃U:LL->LL->Int->Int->Bool->Prop,∃m:LL->LL->Int->Int->Bool->Nat,(U segs rows i c o)/\∀q F,∀G H g,(U q F G H g)->∃C:Bool->Prop,∃m1:Bool->Nat,(ifB (igt (rlen q) z) ((inR 0 q)/\kp4 (rget q 0) λv y w X p P V=>(ifB V ((inR 0 q)/\kp4 (rget q 0) λJ M N a0 a1 a2 A=>((sm ([[SL 3 rows,I i,I c,B o,I j,I k,SL 7 segs,I b,I e,SL 1 l,SL 21 r,I t,I u,I d,I a,B O],[SV.slice 3 [] 1,I 0,I 0,B false,I 0,I 0,SV.slice 7 [] 1,I 0,I 0,SV.slice 1 [] 1,SV.slice 21 [] 1,I 0,I 0,I 0,I 0,B false],[SL 3 F,I G,I H,B g]]))/\C (ile N a))) ((sm ([[SL 3 rows,I i,I c,B o,I j,I k,SL 7 segs,I b,I e,SL 1 l,SL 21 r,I t,I u,I d,I a,B O],[SV.slice 3 [] 1,I 0,I 0,B false,I 0,I 0,SV.slice 7 [] 1,I 0,I 0,SV.slice 1 [] 1,SV.slice 21 [] 1,I 0,I 0,I 0,I 0,B false],[SL 3 F,I G,I H,B g]]))/\C false))) ((sm ([[SL 3 rows,I i,I c,B o,I j,I k,SL 7 segs,I b,I e,SL 1 l,SL 21 r,I t,I u,I d,I a,B O],[SV.slice 3 [] 1,I 0,I 0,B false,I 0,I 0,SV.slice 7 [] 1,I 0,I 0,SV.slice 1 [] 1,SV.slice 21 [] 1,I 0,I 0,I 0,I 0,B false],[SL 3 F,I G,I H,B g]]))/\C false))/\∀V,(C V)->ifB V ((inR 0 q)/\kp4 (rget q 0) λv y w X p P A=>(Cl prog 88 sP [I v] (λR=>kp5 R λs=>(Cl prog 106 sP ([dk4 F G H g,S s]) (λE=>kp3 E λK J M b3 N=>(ifB (ine N 0) (Q ([jr16 K J M b3 j k segs b e l r t u d a O,I N])) ((((0:Int)<=1)/\((1:Int)<=(rlen q))/\(rlen q)<=(rlen q))/\(sm ([[SL 3 rows,I i,I c,B o,I j,I k,SL 7 segs,I b,I e,SL 1 l,SL 21 r,I t,I u,I d,I a,B O],[SV.slice 3 [] 1,I 0,I 0,B false,I 0,I 0,SV.slice 7 [] 1,I 0,I 0,SV.slice 1 [] 1,SV.slice 21 [] 1,I 0,I 0,I 0,I 0,B false]]))/\(U (rsub q 1 (rlen q)) K J M b3)/\Nl (m (rsub q 1 (rlen q)) K J M b3) (m q F G H g)))))))) (Cl prog 107 sP ([dk4 F G H g]) (λR=>kp6 R λK=>(∃D:Int->LL->Int->Int->Bool->Prop,∃W:Int->LL->Int->Int->Bool->Nat,(D 0 F G H g)/\∀v L,∀y w A,(D v L y w A)->ifB (ilt v (rlen K)) ((inR v K)/\kp5 (rget K v) λs=>(Cl prog 108 sP [S s] (λE=>kp7 E λX b3=>(ifB (bpick (bnot b3) true (ige X a)) ((sm ([[SL 3 rows,I i,I c,B o,I j,I k,SL 7 segs,I b,I e,SL 1 l,SL 21 r,I t,I u,I d,I a,B O],[SV.slice 3 [] 1,I 0,I 0,B false,I 0,I 0,SV.slice 7 [] 1,I 0,I 0,SV.slice 1 [] 1,SV.slice 21 [] 1,I 0,I 0,I 0,I 0,B false]]))/\(D (wadd .i64 v 1) L y w A)/\Nl (W (wadd .i64 v 1) L y w A) (W v L y w A)) (Cl prog 106 sP ([dk4 L y w A,S s]) (λZ=>kp3 Z λT p P Y J=>(ifB (ine J 0) (Q ([jr16 T p P Y j k segs b e l r t u d a O,I J])) ((sm ([[SL 3 rows,I i,I c,B o,I j,I k,SL 7 segs,I b,I e,SL 1 l,SL 21 r,I t,I u,I d,I a,B O],[SV.slice 3 [] 1,I 0,I 0,B false,I 0,I 0,SV.slice 7 [] 1,I 0,I 0,SV.slice 1 [] 1,SV.slice 21 [] 1,I 0,I 0,I 0,I 0,B false]]))/\(D (wadd .i64 v 1) T p P Y)/\Nl (W (wadd .i64 v 1) T p P Y) (W v L y w A))))))))) (Cl prog 70 sO [SL 7 q] (λE=>kp8 E λT=>(Q ([jr16 L y w A j k T b e l r t u d a O,I 0])))))))))))):Ct prog 43 {} [jr16 rows i c o j k segs b e l r t u d a O,I z] Q:=
 fO SgT SvT (λn=>bif Nat.beq n 28 then some {slots:=[(8,false,[.sl 7])],boxes:=[(896,[.sl 3,.int .i64,.int .i64,.bool])],fixed:=[256,512]}else bif Nat.beq n 69 then some {slots:=[(68,false,[.int .i64])],boxes:=[(896,[.sl 3,.int .i64,.int .i64,.bool])],fixed:=[256,512]}else bif Nat.beq n 1000007 then some {slots:=[(46,false,[.bool])],fixed:=[256,512,896]}else none) func43 h
def kawake_nf(h:Cl prog 13 sP ([dk4 [] 900 ((-1:Int)) false,SV.agg [I 64,I 1]]) (λrs=>kp2 rs λl x x1 b x2 x3 l1 x4 x5 l2 l3 x6 x7 x8 x9 b1 z=>(Cl prog 20 sP ([jr16 l x x1 b x2 x3 l1 x4 x5 l2 l3 x6 x7 x8 x9 b1,ev7 0 3 1 (bA [98]) 1 0 0]) (λA=>kp2 A λl4 C D b2 E F l5 G H l6 l7 J K L M b3 N=>(Cl prog 20 sP ([jr16 l4 C D b2 E F l5 G H l6 l7 J K L M b3,ev7 0 9 4 (bA [98]) 1 0 0]) (λO=>kp2 O λl8 P R b4 T U l9 V W X Y Z a0 a1 a2 b5 a3=>(Cl prog 41 sP ([jr16 l8 P R b4 T U l9 V W X Y Z a0 a1 a2 b5]) (λa4=>kp2 a4 λa5 a6 a7 b6 a8 a9 j aa ab ac k m n ad o b7 ae=>(Cl prog 43 sP ([jr16 a5 a6 a7 b6 a8 a9 j aa ab ac k m n ad o b7,I 0]) (λaf=>kp2 af λa c d y e g i p q r s t u v w b9 ag=>(Cl prog 13 sP ([dk4 a c d y,SV.agg [I e,I g]]) (λah=>kp2 ah λau av aw ax ay az b0 ba bb bc ai aj ak bd be bf al=>(ifB (bpick (bpick (bpick (bpick (bpick (bpick (bpick (bpick (ieq z 0) (ieq N 0) false) (ieq a3 0) false) (ieq ae 0) false) (ieq ag 0) false) (ieq al 0) false) (ieq o 2) false) (ieq (rlen j) 2) false) (ieq (rlen i) 1) false) (Cl prog 15 sP ([jr16 a c d y e g i p q r s t u v w b9]) (λam=>kp8 am λan=>(ifB (ieq (rlen an) 1) (Cl prog 17 sP ([jr16 a c d y e g i p q r s t u v w b9]) (λao=>kp0 ao λap=>(ifB ap (Cl prog 36 sP ([st3 ai aj ak,st3 k m n]) (λaq=>kp0 aq λar=>(Q [B ar]))) (Q [B false])))) (Q [B false])))) (Q [B false])))))))))))))):Ct prog 40 {} [] Q:=
 fN SgT SvT func40 h
end Jou
namespace Jou
open Go Go.Px Go.Proofs Cod Seg Sgr Snp Sx Row Tryz
noncomputable def snpJ(j:JoD):JoD×Int:=
 if(synJ j).2≠0 then synJ j else
 if(saveD (synJ j).1.dk (synJ j).1.st).2=13 then((synJ j).1,13)else
 if(saveD (synJ j).1.dk (synJ j).1.st).2≠0 then({j with dk:=(saveD (synJ j).1.dk (synJ j).1.st).1},(saveD (synJ j).1.dk (synJ j).1.st).2)else
 ({(synJ j).1 with dk:=(saveD (synJ j).1.dk (synJ j).1.st).1,kept:=(synJ j).1.st.q},0)
def drpS(a b:Int):List SgD->DiD->List SgD×DiD×Int
 | [],d=>([],d,0)
 |p::l,d=>if a<((p::l).length:Int)/\p.sl=true/\p.la<=b then
     (if(Zae d (nmG p.num)).2≠0 then(p::l,(Zae d (nmG p.num)).1,(Zae d (nmG p.num)).2)else drpS a b l (Zae d (nmG p.num)).1)else(p::l,d,0)
def oldB(a:Int)(s:BA):Prop:=∃q,inQ q/\q<a/\s=snNm q
open Classical in
noncomputable def drpN(a:Int):List BA->DiD->DiD×Int
 | [],d=>(d,0)
 |s::l,d=>if oldB a s then(if(Zae d s).2≠0 then Zae d s else drpN a l (Zae d s).1)else drpN a l d
noncomputable def retJ(j:JoD)(a:Int):JoD×Int:=
 if mayJ j≠0 then(j,mayJ j)else if a<0 then(j,1)else
 if(drpS a j.kept j.sg j.dk).2.2≠0 then({j with dk:=(drpS a j.kept j.sg j.dk).2.1},(drpS a j.kept j.sg j.dk).2.2)else
 if(drpN j.kept ((drpS a j.kept j.sg j.dk).2.1.fs.map FiD.nm) (drpS a j.kept j.sg j.dk).2.1).2≠0 then
  ({j with dk:=(drpN j.kept ((drpS a j.kept j.sg j.dk).2.1.fs.map FiD.nm) (drpS a j.kept j.sg j.dk).2.1).1},(drpN j.kept ((drpS a j.kept j.sg j.dk).2.1.fs.map FiD.nm) (drpS a j.kept j.sg j.dk).2.1).2)else
 ({j with dk:=(drpN j.kept ((drpS a j.kept j.sg j.dk).2.1.fs.map FiD.nm) (drpS a j.kept j.sg j.dk).2.1).1,sg:=(drpS a j.kept j.sg j.dk).1},0)
def Zua:∀{l:List Cmp.EvD} {a b:Int},Cns a l b->∀e∈l,a<e.s/\e.s<=b
 | [],_,_,_,e,he=>by cases he
 |x::l,a,b,h,e,he=>by
  obtain⟨d,c⟩:=h;have:=cns_le c
  rcases List.mem_cons.1 he with rfl|he
  .omega
  .have:=Zua c e he;omega
def Zww{l:List Cmp.EvD}(h:Cns i l b)(d:b<=k):l.filter (λe=>decide (k<e.s))=[]:=by
 rw[YT];intro e c;have:=Zua h e c;simp;omega
def Zi0{d:DiD}{gs:List FiD}{a b sure:Int}{shut:Bool}(g:mayC a b)(h:d.P)(i:d.dn=false)(f:DkR d.fs gs)(j:GoodR (gs.map (ptF scF)) (keptF d.fs) (baseF d.fs))(c:∀p∈gs.map (ptF scF),p.n=(segL p.d).length)
  (k:keptF d.fs<=sure) (l:sure<=(stR (gs.map (ptF scF)) (keptF d.fs) (baseF d.fs)).q):
  RightJ ⟨d,a,b,(gs.map (ptF scF)).map sgOf,Zbc (gs.map (ptF scF)),stR (gs.map (ptF scF)) (keptF d.fs) (baseF d.fs),sure,keptF d.fs,shut⟩:=by
 have m:=Zdy f;have e:anewJ d a b sure shut=⟨d,a,b,(gs.map (ptF scF)).map sgOf,Zbc (gs.map (ptF scF)),stR (gs.map (ptF scF)) (keptF d.fs) (baseF d.fs),sure,keptF d.fs,shut⟩:=(by unfold anewJ;rw[m]);have o:Par (anewJ d a b sure shut) gs:=(by rw[e];exact⟨f,j,c,rfl,rfl,rfl,rfl⟩);have:=Zp7 o g h i k (by rw[e];exact l);rw[e]at this;exact this
def Zhr(h:RightJ J){gs:List FiD}(a:segs J.dk.fs=gs):evsJ J=evG gs:=by rw[Zn5 h,a]
def Zzn{j:JoD}(b:RightJ j){d:DiD}(f:d.P)(i:d.dn=false)(g:segs d.fs=segs j.dk.fs)(a:keptF d.fs=keptF j.dk.fs)(e:baseF d.fs=baseF j.dk.fs):
  RightJ {j with dk:=d}/\evsJ {j with dk:=d}=evsJ j:=by
 have p:=b.par;have c:=Zk1 b
 have k:DkR d.fs (segs j.dk.fs):=⟨f.2.2.2,g,p.dkr.inr,by rw[a];exact p.dkr.kept⟩
 have h:=Zi0 (d:=d) (sure:=j.sure) (shut:=j.shut) b.cfg f i k (by rw[a,e];exact p.good) p.all (by rw[a];exact c.1) (by rw[a,e,<-p.st];exact c.2.1);rw[a,e,<-p.st,<-p.sg,<-p.cx,<-p.kept]at h;exact⟨h,by rw[Zhr h (gs:=segs j.dk.fs) g,Zn5 b]⟩
def Zzo{j:JoD}(k:RightJ j){d:DiD}(l:d.P)(r:d.dn=false)(m:segs d.fs=segs j.dk.fs)(f:keptF d.fs=j.st.q)(n:baseF d.fs=j.st)(i:j.sure=j.st.q):
  RightJ {j with dk:=d,kept:=j.st.q}/\evsJ {j with dk:=d,kept:=j.st.q}=evsJ j:=by
 have p:=k.par;have E:=p.kq
 rcases Y2 (segs j.dk.fs)with h0|⟨gs,g,hgs⟩
 .have o:DkR d.fs []:=⟨l.2.2.2,by rw[m,h0],by simp[inRow],Vs⟩
  have h:=Zi0 (d:=d) (gs:=[]) (sure:=j.sure) (shut:=j.shut) k.cfg l r o ⟨Vs,Vs,by simp[evsR,foldS],Vs⟩ Vs (by rw[f,i];omega) (by simp[stR,evsR,foldS,n,i]);have e1:stR ([].map (ptF scF)) (keptF d.fs) (baseF d.fs)=j.st:=(by simp[stR,evsR,foldS,n]);rw[e1,f]at h;have e2:=p.sg;have u:=p.cx;rw[h0]at e2 u;rw[<-e2,<-u]at h;exact⟨h,by rw[Zhr h (gs:=[]) (by show segs d.fs=[];rw[m,h0]),Zhr k h0]⟩
 .rw[List.concat_eq_append]at hgs;have c:=p;rw[hgs]at c;have v:=c.q;have w:=c.t
  have y:(evsR ((gs++[g]).map (ptF scF))).filter (λe=>decide (j.st.q<e.s))=[]:=by
   obtain⟨x,b⟩:∃x,((gs++[g]).map (ptF scF)).head?=some x:=by
    cases gs<;>exact⟨_,rfl⟩
   have z:=Zs6 gs g (by rw[<-hgs];exact p.dkr.inr) (by rw[<-hgs];exact Za8) c.good.cnt x b;exact Zww z (by rw[v];exact Int.le_refl _)
  have e1:stR ((gs++[g]).map (ptF scF)) (keptF d.fs) (baseF d.fs)=j.st:=by unfold stR;rw[f,n,y];rfl
  have o:DkR d.fs (gs++[g]):=⟨l.2.2.2,by rw[m,hgs],by rw[<-hgs];exact p.dkr.inr,λx b=>by
   rw[List.map_append,List.map_cons,List.map_nil,List.getLast?_concat,YA]at b
   rw[<-b,f];show j.st.q<=(scF g).s;omega⟩
  have C:GoodR ((gs++[g]).map (ptF scF)) (keptF d.fs) (baseF d.fs):=by
   refine⟨λx b=>?_,c.good.cnt,?_,λx b=>?_⟩
   .have:=c.good.bs x b;have D:=p.kept;rw[f];omega
   .rw[f,n,y];rfl
   .rw[e1];rw[List.map_append,List.map_cons,List.map_nil,List.getLast?_concat,Option.mem_def,YA]at b;rw[<-b];exact w.symm
  have h:=Zi0 (d:=d) (gs:=gs++[g]) (sure:=j.sure) (shut:=j.shut) k.cfg l r o C c.all (by rw[f,i];omega) (by rw[e1,i];omega);rw[e1,f,<-c.sg,<-c.cx]at h;exact⟨h,by rw[Zhr h (gs:=gs++[g]) (by show segs d.fs=_;rw[m,hgs]),Zhr k hgs]⟩
def tick_no(h:d.st= -1):d.tick=d:=by
 unfold DiD.tick;rw[if_neg Vo]
def perf_no(h:d.st= -1)(a:List FiD):d.perf a=({d with fs:=a},0):=by
 unfold DiD.perf;rw[if_neg Vo,tick_no h]
def syn_free(a:RightJ J)(hst:J.dk.st= -1):∃k,synJ J=(k,0)/\k.dk.st= -1:=by
 rw[show synJ J=synQ J by unfold synJ;rw[if_neg (by rw[Zbz.2 a];simp)]];unfold synQ
 rcases Zjr J a with⟨_,d⟩|⟨gs,g,hgs,p,hsg⟩
 .rw[d];exact⟨_,rfl,hst⟩
 .rw[hsg,Zau]
  dsimp only
  split
  .exact⟨_,rfl,hst⟩
  .have f:=p.in_;have b:g∈J.dk.fs:=(List.mem_filter.1 (show g∈segs J.dk.fs by rw[hgs];simp)).1;have c:fnB g.nm=true:=a.dk.2.2.1 g b;have h:=Zif a.dk.2.2.2 b;have e:Zat J.dk g.nm=({J.dk with fs:=withB FiD.nm J.dk.fs ⟨g.nm,g.su++g.lo,[]⟩},0):=(by unfold Zat;rw[if_neg (λq=>q (er_of a.dk a.up c c)),h];exact perf_no hst _);rw[show nmG (sgOf ⟨scF g,g.len⟩).num=g.nm from f.2.2.2.1.symm,e];exact⟨_,rfl,hst⟩
def num_tmp:numS tmpB=0:=by decide+kernel
def Zwx(q:Int):numS (snNm q)=0:=Yh.1 λh=>Zek h q rfl
def Zjp{l:List FiD}{s:BA}(h:numS s=0):segs (wout FiD.nm l s)=segs l:=by
 rw[Zij];exact Zd7 λf a e=>Za8 f a (by rw[e];exact h)
def segs_lay{l:List FiD}{f:FiD}(h:numS f.nm=0):segs (withB FiD.nm l f)=segs l:=by
 have e:segs [f]=[]:=(by simp[segs,isSeg,h]);have:∀m:List FiD,segs (insB FiD.nm m f)=segs m:=λm=>by show segs (ahd FiD.nm m f.nm++([f]++bhd FiD.nm m f.nm))=_;rw[Ziv,Ziv,e,List.nil_append,<-Ziv,show ahd FiD.nm m f.nm++bhd FiD.nm m f.nm=m from Zcq _ _]
 show segs (insB FiD.nm (wout FiD.nm l f.nm) f)=_;rw[this,Zjp h]
def best_all:∀(n:Nat) (l:List FiD),l.length=n->∃o,Best l o:=by
 intro n
 induction n with
 |zero=>intro l a;cases l with
  |nil=>exact⟨none,λt b=>by obtain⟨f,h,_⟩:=b;cases h⟩
  |cons x l=>cases a
 |succ n i=>
  intro l a
  rcases Y2 l with rfl|⟨m,f,rfl⟩
  .cases a
  rw[List.concat_eq_append]at a|-;obtain⟨o,c⟩:=i m (by simpa using a);by_cases hf:∃t,isF f t/\∀s,o=some s->s.q<t.q
  .obtain⟨t,e,g⟩:=hf;exact⟨_,Zrn c e g⟩
  .refine⟨o,Zrm c λt b=>?_⟩
   cases o with
   |none=>exact absurd ⟨t,b,Vs⟩ hf
   |some s=>exact⟨s,rfl,Classical.byContradiction λh=>hf ⟨t,b,λx d=>by cases d;omega⟩⟩
def Zub(h:newF y=none):Best y none:=by
 unfold newF at h
 split at h
 .cases h
 .rename_i b;intro t c;apply b;obtain⟨o,a⟩:=best_all _ y rfl
  cases o with
  |none=>exact absurd c (a t)
  |some s=>exact⟨s,a⟩
def Zkf(h:newF y=some g):Best y (some g):=by
 unfold newF at h
 split at h
 next a=>cases h;exact a.choose_spec
 .cases h
def snp_law(g:RightJ J)(hst:J.dk.st= -1):∃k e,snpJ J=(k,e)/\(e=0\/e=13)/\RightJ k/\k.dk.st= -1/\k.st=J.st/\evsJ k=evsJ J/\k.sure=J.st.q/\(e=0->k.kept=J.st.q)/\k.cb=J.cb/\k.cg=J.cg:=by
 obtain⟨s,n,c⟩:=syn_free g hst;have u:synQ J=(s,0):=by rw[<-n];unfold synJ;rw[if_neg (by rw[Zbz.2 g];simp)]
 obtain⟨R,d,o,i,s4,p,_,D,_⟩:=Zz3 g u;unfold snpJ;rw[n]
 dsimp only
 rw[if_neg Vs];have f:=Zzg R.dk R.up R.fct.st;generalize hx:saveD s.dk s.st=x at f
 cases f with
 |full h=>exact⟨s,13,by rw[if_pos rfl],.inr rfl,R,c,d,o,i,λh=>(by cases h),s4,p⟩
 |down x l h E v=>exact absurd c h
 |ok x l y z A m v=>
  rw[if_neg Vs,if_neg Vs];have r:segs x.fs=segs s.dk.fs:=by rw[m,segs_lay (by exact Zwx _),Zjp num_tmp]
  have t:newF x.fs=some s.st:=by
   rw[m];refine Zmy (by rw[<-m];exact l.2.2.2) ?_
   cases hw:newF s.dk.fs with
   |none=>exact Zwq R.fct.st (Zub hw) (λw h=>by cases h)
   |some w=>exact Zwq R.fct.st (Zkf hw) (λC h=>by
     cases h
     have:=R.par.kq;rw[R.par.kept]at this;unfold keptF at this;rw[hw]at this
     exact this)
  have e1:keptF x.fs=s.st.q:=(by unfold keptF;rw[t]);have e2:baseF x.fs=s.st:=(by unfold baseF;rw[t]);obtain⟨a,b⟩:=Zzo R l y r e1 e2 (by rw[i,d]);exact⟨_,0,rfl,.inl rfl,a,z c,d,b.trans o,i,λ_=>by show s.st.q=_;rw[d],s4,p⟩
def Zwy(a:d.P)(e:d.dn=false)(hst:d.st= -1)(b:f∈d.fs):Zae d f.nm=({d with fs:=wout FiD.nm d.fs f.nm},0):=by
 have c:fnB f.nm=true:=a.2.2.1 f b;unfold Zae;rw[if_neg (λq=>q (er_of a e c c)),Zif a.2.2.2 b];exact perf_no hst _
def rem_P{d a:DiD}{s:BA}(b:d.P)(h:Zae d s=(a,0)):a.P:=by
 have:=Zw2 (s:=.rem s) b;rw[show Stp.run (.rem s) d=(a,0)from h]at this;exact this
def Zzp{b:FiD->Sc}{a:Option Sc}:∀{l:List FiD},inRow b a l->inRow b none l
 | [],_=>trivial
 |_::_,h=>⟨h.1,trivial,h.2.2⟩
def wout_head{l:List FiD}(a:srt FiD.nm (f::l)):wout FiD.nm (f::l) f.nm=l:=by
 have:=Zdr a (i:=0) Vs
 simpa using this
def Zzq{j:JoD}(b:RightJ j)(hst:j.dk.st= -1){f:FiD}{gs:List FiD}(i:segs j.dk.fs=f::gs)(z:(scF f).sl=true)(o:(scF f).s<=j.kept):
  ∃d,Zae j.dk f.nm=(d,0)/\d.st= -1/\segs d.fs=gs/\RightJ {j with dk:=d,sg:=j.sg.tail}/\evsJ j=(scF f).ev++evsJ {j with dk:=d,sg:=j.sg.tail}/\∀e∈(scF f).ev,e.s<=j.kept:=by
 have p:=b.par;rw[i]at p;have H:f∈j.dk.fs:=(List.mem_filter.1 (show f∈segs j.dk.fs by rw[i];simp)).1;have A:=Zwy b.dk b.up hst H;have C:numS f.nm≠0:=Za8 f (by rw[i];simp);have D:=rem_P b.dk A;have m:segs ({j.dk with fs:=wout FiD.nm j.dk.fs f.nm}:DiD).fs=gs:=(by show segs (wout FiD.nm j.dk.fs f.nm)=gs;rw[Zij,i,wout_head];have:=b.dk.2.2.2;have v:srt FiD.nm (segs j.dk.fs):=Yu _ this;rw[i]at v;exact v);obtain⟨k,u⟩:=Ze2 (l:=j.dk.fs) C;have q:=p.dkr.inr;have r:ScOK (scF f)/\(scF f).num≠0:=(by have h:=p.dkr.bytes p.all f Vs;exact⟨h.1,by rw[h.2.2.1];exact h.2.2.2⟩);have w:((scF f).ev.length:Int)=(scF f).s-(scF f).bs:=p.good.cnt (ptF scF f) Vs;have E:=Zpa r.1 r.2 w;have F:∀e∈(scF f).ev,e.s<=j.kept:=λe G=>by have:=Zua E (toE e) (Yd G);have v:(toE e).s=e.s:=rfl;omega
 have n:(evsR ((f::gs).map (ptF scF))).filter (λe=>decide (keptF j.dk.fs<e.s))=(evsR (gs.map (ptF scF))).filter λe=>decide (keptF j.dk.fs<e.s):=(by show((scF f).ev.map toE++evsR (gs.map (ptF scF))).filter _=_;rw[List.filter_append,Zww E (by rw[<-p.kept];exact o),List.nil_append]);have y:stR ((f::gs).map (ptF scF)) (keptF j.dk.fs) (baseF j.dk.fs)=stR (gs.map (ptF scF)) (keptF j.dk.fs) (baseF j.dk.fs):=(by unfold stR;rw[n]);have c:∀x,(gs.map (ptF scF)).getLast?=some x->((f::gs).map (ptF scF)).getLast?=some x:=λx a=>by rw[List.map_cons,List.getLast?_cons,a];rfl
 have J:GoodR (gs.map (ptF scF)) (keptF j.dk.fs) (baseF j.dk.fs):=by
  refine⟨λx a=>?_,λx a=>p.good.cnt x (by rw[List.map_cons];exact Yy _ a),?_,λx a=>?_⟩
  .cases gs with
   |nil=>cases a
   |cons g l=>
    cases a
    have:=q.2.2.2.1;have K:(scF g).bs=(scF f).s:=this.2.2.1;show(scF g).bs<=_;rw[K,<-p.kept];exact o
  .have:=p.good.app;rw[n]at this;exact this
  .rw[<-y];exact p.good.at_ x (c x a)
 have L:DkR (wout FiD.nm j.dk.fs f.nm) gs:=⟨D.2.2.2,m,Zzp q.2.2,λx a=>by rw[k];exact p.dkr.kept x (c x a)⟩
 have t:=Zk1 b
 have h:=Zi0 (d:={j.dk with fs:=wout FiD.nm j.dk.fs f.nm}) (gs:=gs) (sure:=j.sure) (shut:=j.shut) b.cfg D b.up L (by rw[show keptF _=_ from k,show baseF _=_ from u];exact J) (λx a=>p.all x (by rw[List.map_cons];exact Yy _ a))
  (by rw[show keptF _=_ from k];exact t.1) (by rw[show keptF _=_ from k,show baseF _=_ from u,<-y,<-p.st];exact t.2.1)
 rw[show keptF ({j.dk with fs:=wout FiD.nm j.dk.fs f.nm}:DiD).fs=_ from k,show baseF ({j.dk with fs:=wout FiD.nm j.dk.fs f.nm}:DiD).fs=_ from u,<-y,<-p.st,<-p.kept]at h;have e1:j.sg.tail=(gs.map (ptF scF)).map sgOf:=by rw[p.sg];rfl
 have e2:j.cx=Zbc (gs.map (ptF scF)):=by
  rw[p.cx];unfold Zbc
  cases gs with
  |nil=>show(if(scF f).sl=true then _ else _)=_;rw[if_pos z];rfl
  |cons g l=>rw[List.map_cons,List.map_cons,WT]
 rw[<-e1,<-e2]at h;refine⟨_,A,hst,m,h,?_,F⟩;rw[Zhr b i,Zhr h (gs:=gs) m];rfl
def drp_law(i:Int):∀(n:Nat) {j:JoD},j.sg.length=n->RightJ j->j.dk.st= -1->∃l d,drpS i j.kept j.sg j.dk=(l,d,0)/\d.st= -1/\RightJ {j with dk:=d,sg:=l}/\
  (∃g,evsJ j=g++evsJ {j with dk:=d,sg:=l}/\∀e∈g,e.s<=j.kept)/\(i<=l.length\/l.length=j.sg.length):=by
 intro n
 induction n with
 |zero=>
  intro j q r hst;have u:j.sg=[]:=Y8 q;refine⟨[],j.dk,by rw[u];rfl,hst,?_,⟨[],?_,Vs⟩,.inr (by rw[u])⟩
  .rw[<-u];exact r
  .rw[<-u];rfl
 |succ n K=>
  intro j q r hst
  obtain⟨p,l,hsg⟩:∃p l,j.sg=p::l:=by
   cases h:j.sg with
   |nil=>rw[h]at q;cases q
   |cons p l=>exact⟨p,l,rfl⟩
  rw[hsg,drpS];by_cases hc:i<((p::l).length:Int)/\p.sl=true/\p.la<=j.kept
  .rw[if_pos hc];have t:=r.par
   obtain⟨f,o,hs⟩:∃f o,segs j.dk.fs=f::o:=by
    cases h:segs j.dk.fs with
    |nil=>rw[h]at t;rw[t.sg]at hsg;cases hsg
    |cons f o=>exact⟨f,o,rfl⟩
   rw[hs]at t;have e:p=sgOf (ptF scF f)/\l=(o.map (ptF scF)).map sgOf:=(by have:=t.sg;rw[hsg,List.map_cons,List.map_cons,List.cons.injEq]at this;exact this);have v:=t.name f Vs;have H:nmG p.num=f.nm:=(by rw[e.1];show nmG (scF f).num=_;rw[Zfx v.2,v.1]);obtain⟨d,C,D,L,w,y,E⟩:=Zzq r hst hs (by rw[e.1]at hc;exact hc.2.1) (by rw[e.1]at hc;exact hc.2.2);rw[H,C]
   dsimp only
   rw[if_neg Vs];have J:j.sg.tail=l:=by rw[hsg];rfl
   rw[J]at w y;obtain⟨z,F,a,b,c,⟨g,G,A⟩,m⟩:=K (j:={j with dk:=d,sg:=l}) (by have:=q;rw[hsg]at this;simpa using this) w D;refine⟨z,F,a,b,c,⟨(scF f).ev++g,?_,λx k=>?_⟩,?_⟩
   .rw[y,G,List.append_assoc]
   .rcases List.mem_append.1 k with k|k
    .exact E x k
    .exact A x k
   .left
    have:((p::l).length:Int)=l.length+1:=Vs
    rcases m with m|m
    .exact m
    .have m:z.length=l.length:=m;omega
  .rw[if_neg hc];exact⟨p::l,j.dk,rfl,hst,by rw[<-hsg];exact r,⟨[],by rw[<-hsg];rfl,Vs⟩,.inr rfl⟩
def newF_old{l:List FiD}{q:Int}(g:srt FiD.nm l)(c:inQ q)(h:q<keptF l):newF (wout FiD.nm l (snNm q))=newF l:=by
 cases hw:newF l with
 |none=>unfold keptF at h;rw[hw]at h;unfold inQ at c;simp at h;omega
 |some s=>
  have d:=Zkf hw;unfold keptF at h;rw[hw]at h
  dsimp only at h
  refine Zmy (srt_wout g) ⟨?_,λt i=>?_⟩
  .obtain⟨f,b,a⟩:=d.1;refine⟨f,Zbl.2 ⟨b,λe=>?_⟩,a⟩;rw[a.2.1]at e;have:=Zk0 (stP_q a.1) c e;omega
  .obtain⟨f,b,a⟩:=i;exact d.2 t ⟨f,(Zbl.1 b).1,a⟩
def drn_law:∀(l:List BA) {j:JoD},RightJ j->j.dk.st= -1->l.Nodup->(∀s∈l,∃f∈j.dk.fs,f.nm=s)->∃d,drpN j.kept l j.dk=(d,0)/\d.st= -1/\RightJ {j with dk:=d}/\evsJ {j with dk:=d}=evsJ j
 | [],j,hR,hst,_,_=>⟨j.dk,rfl,hst,hR,rfl⟩
 |s::l,j,hR,hst,hn,hm=>by
  rw[drpN];rw[Yl]at hn;by_cases ho:oldB j.kept s
  .rw[if_pos ho];obtain⟨q,n,k,rfl⟩:=ho;obtain⟨f,o,m⟩:=hm (snNm q) Vs;have i:=Zwy hR.dk hR.up hst o;rw[m]at i;have w:=rem_P hR.dk i;have c:newF (wout FiD.nm j.dk.fs (snNm q))=newF j.dk.fs:=newF_old hR.dk.2.2.2 n (by rw[<-hR.par.kept];exact k);have x:keptF (wout FiD.nm j.dk.fs (snNm q))=keptF j.dk.fs:=by unfold keptF;rw[c]
   obtain⟨a,b⟩:=Zzn hR (d:={j.dk with fs:=wout FiD.nm j.dk.fs (snNm q)}) w hR.up (Zjp (Zwx q)) x (by unfold baseF;rw[c]);rw[i]
   dsimp only
   rw[if_neg Vs]
   obtain⟨d,p,r,t,u⟩:=drn_law l (j:={j with dk:={j.dk with fs:=wout FiD.nm j.dk.fs (snNm q)}}) a hst hn.2 (λs h=>by
    obtain⟨g,v,e⟩:=hm s (by simp[h])
    exact⟨g,Zbl.2 ⟨v,by rw[e];rintro rfl;exact hn.1 h⟩,e⟩)
   exact⟨d,p,r,t,u.trans b⟩
  .rw[if_neg ho];exact drn_law l hR hst hn.2 (λs h=>hm s (by simp[h]))
def ret_law{j:JoD}(c:RightJ j)(hst:j.dk.st= -1){least:Int}(w:0<=least):∃m,retJ j least=(m,0)/\RightJ m/\m.dk.st= -1/\m.st=j.st/\m.kept=j.kept/\m.cb=j.cb/\m.cg=j.cg/\
  (∃g,evsJ j=g++evsJ m/\∀e∈g,e.s<=j.kept)/\(least<=m.sg.length\/m.sg.length=j.sg.length):=by
 obtain⟨l,d,k,n,f,o,p⟩:=drp_law least _ rfl c hst
 obtain⟨q,r,t,u,v⟩:=drn_law (d.fs.map FiD.nm) (j:={j with dk:=d,sg:=l}) f n
  (List.Pairwise.map _ (λa b h e=>absurd h (by rw[e];exact Zjo _)) f.dk.2.2.2) (λs i=>by simpa using i)
 unfold retJ;rw[if_neg (by rw[Zbz.2 c];simp),if_neg Vo,k]
 dsimp only
 rw[if_neg Vs,show drpN j.kept (d.fs.map FiD.nm) d=(q,0)from r]
 dsimp only
 rw[if_neg Vs];exact⟨_,rfl,u,t,rfl,rfl,rfl,rfl,by rw[v];exact o,p⟩
def reopen(a:RightJ J)(hst:J.dk.st= -1):∃k,openP J.dk J.cb J.cg=(k,0)/\RightJ k/\k.st=J.st/\evsJ k=evsJ J/\k.kept=J.kept:=by
 obtain⟨c,hm⟩:∃c,menD J.dk=(c,0):=⟨_,Wa rfl (mend_well a.dk a.up hst)⟩
 have h:=Zz2 a.dk a.cfg a.up a.good hm;have g:=Zz1 h;obtain⟨f,b⟩:=men_row a.dk.2.2.2 hm;have i:=a.par;refine⟨_,h,g.right,?_,?_,?_⟩
 .rw[g.st,a.row,<-i.st]
 .have e:∀r:List Pt,r.flatMap (·.d.ev)=(r.map (·.d)).flatMap (·.ev):=λr=>by rw[List.flatMap_map]
  unfold evsJ;rw[if_pos g.right,if_pos a,e,e];exact congrArg (List.flatMap (·.ev)) f
 .show keptF c.fs=_;rw[b.kept,i.kept]
end Jou
namespace Jou
open Go Go.Px Go.Proofs Cod Seg Sgr Snp Sx Row Dsk Tryz
def kmay_fn(j:JoD)(h:j.ok):Ct prog 103 {} [j.sv] (λr=>r=[I (mayJ j)]):=by
 refine kmay_nf (Cl.of (Zd6 j.dk h.dk) ⟨_,rfl,Zaa (λg=>?_) (λg=>Cl.of (Zdu j h) ⟨_,rfl,Zaa (λz=>?_) (λz=>?_)⟩)⟩)
 .simp_all[mayJ]
 .have z:¬RightJ j:=λq=>by rw[Zck.2 q]at z;simp at z
  simp_all[mayJ]
 .have z:RightJ j:=Zck.1 (by simpa using z);rw[Zbz.2 z]
def synJ_ok(h:J.ok):(synJ J).1.dk.ok:=by
 have a:∀s,(Zat J.dk s).1.ok:=λs=>Zvd (s:=.syn s) h.dk;unfold synJ
 split
 .exact h.dk
 .unfold synQ
  repeat' split
  all_goals first|exact h.dk|exact a _
def Zvl(j:JoD)(h:j.ok):Ct prog 41 {} [j.sv] (λr=>r=[(snpJ j).1.sv,I (snpJ j).2]):=by
 refine ksnap_nf (Cl.of (kmay_fn j h) ⟨_,rfl,Zaa (λg=>?_) (λg=>Cl.of (jsyn_fn j h) ⟨_,_,_,_,_,_,_,_,_,_,_,_,_,_,_,_,_,rfl,Zaa (λa=>?_) (λa=>?_)⟩)⟩)
 .have g:mayJ j≠0:=(by simpa using g);have e:synJ j=(j,mayJ j):=(by unfold synJ;rw[if_pos g]);unfold snpJ;rw[if_pos (by rw[e];exact g),e];rfl
 .have a:(synJ j).2≠0:=(by simpa using a);unfold snpJ;rw[if_pos a];rfl
 .have a:¬(synJ j).2≠0:=(by simpa using a);refine Cl.of (nsave_fn (synJ j).1.dk (synJ_ok h) (synJ j).1.st) ⟨_,_,_,_,_,rfl,?_⟩;have e:snpJ j=if(saveD (synJ j).1.dk (synJ j).1.st).2=13 then((synJ j).1,13)else if(saveD (synJ j).1.dk (synJ j).1.st).2≠0 then({j with dk:=(saveD (synJ j).1.dk (synJ j).1.st).1},(saveD (synJ j).1.dk (synJ j).1.st).2)else({(synJ j).1 with dk:=(saveD (synJ j).1.dk (synJ j).1.st).1,kept:=(synJ j).1.st.q},0):=(by unfold snpJ;rw[if_neg a]);rw[e]
  refine Zaa (λz=>?_) (λz=>Zaa (λy=>?_) (λy=>?_))
  .have z:(saveD (synJ j).1.dk (synJ j).1.st).2=13:=(by simpa using z);rw[if_pos z,z];rfl
  .have z:¬(saveD (synJ j).1.dk (synJ j).1.st).2=13:=(by simpa using z);have y:(saveD (synJ j).1.dk (synJ j).1.st).2≠0:=(by simpa using y);rw[if_neg z,if_pos y];rfl
  .have z:¬(saveD (synJ j).1.dk (synJ j).1.st).2=13:=(by simpa using z);have y:¬(saveD (synJ j).1.dk (synJ j).1.st).2≠0:=(by simpa using y);rw[if_neg z,if_neg y];rfl
def goB(a b:Int):List SgD->Bool
 | []=>false
 |p::l=>decide (a<((p::l).length:Int)/\p.sl=true/\p.la<=b)
def drp_yes{p:SgD}{l:List SgD}(h:goB i b (p::l)=true):drpS i b (p::l) d=if(Zae d (nmG p.num)).2≠0 then(p::l,(Zae d (nmG p.num)).1,(Zae d (nmG p.num)).2)else drpS i b l (Zae d (nmG p.num)).1:=by
 rw[drpS,if_pos (by simpa[goB]using h)]
def drp_no{l:List SgD}{d:DiD}(h:goB i b l=false):drpS i b l d=(l,d,0):=by
 cases l with
 |nil=>rfl
 |cons p l=>rw[drpS,if_neg (by simpa[goB]using h)]
def rem_ok{d:DiD}(h:d.ok)(s:BA):(Zae d s).1.ok:=Zvd (s:=.rem s) h
def rem_len(d:DiD)(s:BA):(Zae d s).1.fs.length<=d.fs.length:=by
 have h:(wout FiD.nm d.fs s).length<=d.fs.length:=List.length_filter_le _ _;unfold Zae DiD.perf
 repeat' split
 all_goals first|exact Nat.le_refl _|exact h
def sv_dk(h:dk4 l i b o=d.sv):l=fR d.fs/\i=d.rm/\b=d.st/\o=d.dn:=by
 simpa using h
def Zno(j:JoD)(h:j.ok)(c:Int):Ct prog 43 {} [j.sv,I c] (λr=>r=[(retJ j c).1.sv,I (retJ j c).2]):=by
 refine Zy1 (Cl.of (kmay_fn j h) ⟨_,rfl,Zaa (λg=>?_) (λg=>Zaa (λm=>?_) (λm=>?_))⟩)
 .have g:mayJ j≠0:=(by simpa using g);unfold retJ;rw[if_pos g];rfl
 .have g:¬mayJ j≠0:=(by simpa using g);unfold retJ;rw[if_neg g,if_pos (by simpa using m)];rfl
 have g:¬mayJ j≠0:=(by simpa using g);have m:¬c<0:=(by simpa using m);have P:=(Zbz.1 (Yh.1 g)).fct.len;have G:=(Zbz.1 (Yh.1 g)).fct.fs;refine⟨λl s t u v=>∃L D,l=sgR L/\dk4 s t u v=D.sv/\D.ok/\(L.length<=64/\D.fs.length<=64)/\drpS c j.kept L D=drpS c j.kept j.sg j.dk,λl _ _ _ _=>l.length,⟨j.sg,j.dk,rfl,rfl,h.dk,⟨P,G⟩,rfl⟩,?_⟩;rintro _ _ _ _ _ ⟨L,D,rfl,hD,hok,⟨hL,hL2⟩,hdr⟩;obtain⟨rfl,rfl,rfl,rfl⟩:=sv_dk hD;refine⟨λb=>b=goB c j.kept L,λ_=>0,Zaa (λq=>?_) (λq=>⟨rfl,?_⟩),?_⟩
 .have q:c<(L.length:Int):=by simpa using q
  cases L with
  |nil=>simp at q;omega
  |cons p l=>
   have A:inR 0 (sgR (p::l)):=⟨Vo,Vs⟩
   refine⟨A,_,_,_,_,_,_,_,rfl,Zaa (λz=>⟨A,_,_,_,_,_,_,_,rfl,rfl,?_⟩) (λz=>⟨rfl,?_⟩)⟩
   .simp only[goB,z,true_and];rw[List.length_cons,Int.natCast_add]at q;simp[ile];intro _;omega
   .simp[goB,z]
 .have q:¬c<(L.length:Int):=by simpa using q
  cases L with
  |nil=>rfl
  |cons p l=>simp only[goB];symm;rw[decide_eq_false_iff_not];rintro⟨a,_⟩;exact q a
 .rintro b rfl;refine Zaa (λq=>?_) (λq=>?_)
  .cases L with
   |nil=>cases q
   |cons p l=>
    rw[drp_yes q]at hdr;refine⟨⟨Vo,Vs⟩,_,_,_,_,_,_,_,rfl,Cl.of (Zc3 _) ⟨_,rfl,Cl.of (Zgp D hok _) ⟨_,_,_,_,_,rfl,Zaa (λz=>?_) (λz=>?_)⟩⟩⟩
    .have z:(Zae D (nmG p.num)).2≠0:=(by simpa using z);rw[if_pos z]at hdr;unfold retJ;rw[if_neg g,if_neg m,<-hdr]
     dsimp only
     rw[if_pos z];rfl
    .have z:¬(Zae D (nmG p.num)).2≠0:=(by simpa using z);rw[if_neg z]at hdr;have e:rsub (sgR (p::l)) 1 (rlen (sgR (p::l)))=sgR l:=(by simp[rsub,rlen,List.take_of_length_le]);refine⟨⟨Vo,Vm,Int.le_refl _⟩,rfl,⟨l,_,e,rfl,rem_ok hok _,⟨by simp at hL;omega,Nat.le_trans (rem_len _ _) hL2⟩,hdr⟩,?_⟩
     dsimp only
     rw[e];simp
  .have H:=drp_no (d:=D) q;rw[H]at hdr
   have eR:retJ j c=if(drpN j.kept (D.fs.map FiD.nm) D).2≠0 then({j with dk:=(drpN j.kept (D.fs.map FiD.nm) D).1},(drpN j.kept (D.fs.map FiD.nm) D).2)else({j with dk:=(drpN j.kept (D.fs.map FiD.nm) D).1,sg:=L},0):=by
    unfold retJ;rw[if_neg g,if_neg m,<-hdr]
    dsimp only
    rw[if_neg Vs]
   rw[eR];refine Cl.of (Zpq D Vo) ⟨_,rfl,?_⟩;refine⟨λx s t u v=>∃(i:Nat) (E:DiD),x=(i:Int)/\i<=(D.fs.map FiD.nm).length/\dk4 s t u v=E.sv/\E.ok/\drpN j.kept ((D.fs.map FiD.nm).drop i) E=drpN j.kept (D.fs.map FiD.nm) D,λx _ _ _ _=>((D.fs.map FiD.nm).length-x.toNat),⟨0,D,rfl,W4 _,rfl,hok,rfl⟩,?_⟩;rintro _ _ _ _ _ ⟨i,E,rfl,A,hE,hEo,hEd⟩;obtain⟨rfl,rfl,rfl,rfl⟩:=sv_dk hE;generalize hN:D.fs.map FiD.nm=N at*;have Q:N.length<=64:=by rw[<-hN];simpa using hL2
   refine Zaa (λq=>?_) (λq=>?_)
   .have q:i<N.length:=(by simpa using q);have R:N.drop i=N[i]::N.drop (i+1):=List.drop_eq_getElem_cons q;rw[R,drpN]at hEd;have J:wadd IntKind.i64 (i:Int) 1=((i+1:Nat):Int):=waddN i
    have step:∀f:DiD,f.ok->drpN j.kept (N.drop (i+1)) f=drpN j.kept N D->(∃(k:Nat) (E:DiD),wadd IntKind.i64 (i:Int) 1=(k:Int)/\k<=N.length/\dk4 (fR f.fs) f.rm f.st f.dn=E.sv/\E.ok/\drpN j.kept (N.drop k) E=drpN j.kept N D)/\Nl (N.length-(wadd IntKind.i64 (i:Int) 1).toNat) (N.length-(i:Int).toNat):=λf K M=>
     ⟨⟨i+1,f,J,Vo,rfl,K,M⟩,by rw[J];simp only[Int.toNat_natCast];exact Nat.succ_le_of_lt Vo⟩
    refine⟨⟨Vo,Vm⟩,N[i],by simp[rget,q],Cl.ofQ (nnum_fn N[i]) ?_⟩;rintro _ ⟨n,b,rfl,hnum⟩;refine⟨_,_,rfl,Zaa (λz=>?_) (λz=>?_)⟩
    .have C:¬oldB j.kept N[i]:=by
      rintro⟨k,F,T,e⟩
      rcases hnum with⟨O,o,w,rfl,rfl⟩|⟨hno,_,_⟩
      .have:=Zk0 F o (e.symm.trans w);simp[bpick,bnot,ige]at z;omega
      .exact hno k F e
     rw[if_neg C]at hEd;exact⟨rfl,step E hEo hEd⟩
    .have C:oldB j.kept N[i]:=by
      rcases hnum with⟨O,o,w,rfl,rfl⟩|⟨hno,_,rfl⟩
      .exact⟨_,o,by simp[bpick,bnot,ige]at z;omega,w⟩
      .simp[bpick,bnot]at z
     rw[if_pos C]at hEd;refine Cl.of (Zgp E hEo _) ⟨_,_,_,_,_,rfl,Zaa (λy=>?_) (λy=>?_)⟩
     .have y:(Zae E N[i]).2≠0:=(by simpa using y);rw[if_pos y]at hEd;rw[<-hEd,if_pos y];rfl
     .have y:¬(Zae E N[i]).2≠0:=(by simpa using y);rw[if_neg y]at hEd;exact⟨rfl,step _ (rem_ok hEo _) hEd⟩
   .have q:¬i<N.length:=(by simpa using q);rw[Yi Vo]at hEd;rw[<-hEd];refine Cl.of (Zwh L Vo) ⟨_,rfl,?_⟩;rw[show drpN j.kept [] E=(E,0)from rfl]
    dsimp only
    rw[if_neg Vs];rfl
