import Derived.Test.YtgehiiginclniaaGreatDoorK14
set_option linter.all false
set_option maxRecDepth 100000
namespace Go.Proofs.YtgehiiginclniaaGreatDoor
namespace Jou
open Go Go.Px Go.Proofs Cod Seg Sgr Snp Sx Row Dsk Tryz
def WrD.sv(w:WrD):SV:=wr18 (fR w.j.dk.fs) w.j.dk.rm w.j.dk.st w.j.dk.dn w.j.cb w.j.cg (sgR w.j.sg) w.j.cx.s w.j.cx.a (nR w.j.cx.m) (coR w.j.st.cs) w.j.st.q w.j.st.t w.j.sure w.j.kept w.j.shut (tR w.td) w.sz
theorem bR_bys{b:List Int}(h:Byts b):bR b=uR (bys b):=by
 rw[uR_bR];unfold bys;rw[iU_of h]
theorem sg_len(l:List SgD)(p:SgD):rlen (sgR (l++[p]))=l.length+1:=by simp
theorem Zgy{l:List SgD}(p:SgD)(h:l.length≤1000000):wsub .i64 (rlen (sgR (l++[p]))) 1=(l.length:Int):=by
 rw[sg_len,Zar (by omega) (by omega)];omega
theorem Zep(l:List SgD)(p:SgD):rget (sgR (l++[p])) (l.length:Int)=p.row:=by simp[rget]
theorem Zuy(l:List SgD)(p q:SgD):rset (sgR (l++[p])) (l.length:Int) q.row=sgR (l++[q]):=by simp[rset]
theorem sg_in(l:List SgD)(p:SgD):inR (l.length:Int) (sgR (l++[p])):=⟨by omega,by rw[sg_len];omega⟩
theorem tR_app(a:List Stp)(s:Stp):rapp (tR a) [s.row]=tR (a++[s]):=by simp[rapp]
theorem Zsa(w:WrD)(l:List SgD)(p:SgD)(c:w.j.sg=l++[p])(b:List Int)(d:Byts b)(f:l.length≤1000000)(h:w.td.length≤1000000)(g:b.length≤1000000)(i:0≤p.sz∧p.sz≤1000000000)(k:0≤w.sz∧w.sz≤1000000000):
  Ct prog 140 sgP [w.sv,SL 1 (bR b)] (λr=>r=[(putW w l p b).sv]):=by
 refine wput_nf ?_;rw[c,Zgy p f,bR_bys d];have a:rlen (uR (bys b))=b.length:=(by simp[bys]);rw[a];refine⟨sg_in l p,sg_in l p,_,_,_,_,_,_,_,Zep l p,sg_in l p,_,_,_,_,_,_,_,Zep l p,?_⟩;rw[Zac (by omega) (by omega),Zac (by omega) (by omega)];have e:=Zuy l p {p with sz:=p.sz+b.length};unfold SgD.row at e
 dsimp only at e⊢
 rw[e];refine⟨sg_in l _,_,_,_,_,_,_,_,Zep l _,Cl.of (Zc9 _) ⟨_,rfl,Cl.of (Zzc _ _) ⟨_,_,rfl,?_,?_⟩⟩⟩
 ·simp;omega
 ·have:=tR_app w.td (.wri (nmG p.num) (bys b));unfold Stp.row at this;rw[this];rfl
theorem wopen_fn(w:WrD)(a:w.j.sg.length≤1000000):Ct prog 74 sgW [w.sv] (λr=>r=[B (opnW w),w.sv]):=by
 refine wopen_nf ?_
 rcases Y2 w.j.sg with e|⟨l,p,e⟩
 ·rw[e];refine Zaa (λh=>by simp at h) (λ_=>?_);unfold WrD.sv opnW;rw[e];rfl
 ·rw[List.concat_eq_append]at e;have b:l.length≤1000000:=by rw[e]at a;simp at a;omega
  rw[e,Zgy p b];refine Zaa (λ_=>⟨sg_in l p,sg_in l p,_,_,_,_,_,_,_,Zep l p,?_⟩) (λh=>by simp at h<;>omega);unfold WrD.sv opnW;rw[e,Zas];rfl
theorem slP_le{n s a:Int}(b:n≤9223372036854775807)(c:s≤9223372036854775807)(d:a≤9223372036854775807):(slP n s a).length≤30:=by
 have e:(leb n.toNat).length≤10:=Cod.leb_small (by omega);have f:(leb s.toNat).length≤10:=Cod.leb_small (by omega);have b3:(leb a.toNat).length≤10:=Cod.leb_small (by omega);simp[slP];omega
theorem wseal_fn(w:WrD)(l:List SgD)(p:SgD)(d:w.j.sg=l++[p])(e:ctxB w.j.cx.s w.j.cx.a w.j.cx.m=true)(q:p.fi≤p.la)(t:0≤p.fi)(u:p.la≤9223372036854775807)(v:l.length≤100000)(x:w.td.length≤100000)(y:0≤p.sz∧p.sz≤100000000)(z:0≤w.sz∧w.sz≤100000000):
  Ct prog 72 sgW [w.sv] (λr=>r=[B true,(sealW w l p).sv]):=by
 have i:=(Zbd.1 e).1;have k:=slP_le (n:=p.la-p.fi) (s:=w.j.cx.s) (a:=w.j.cx.a) (by omega) (by omega) (by omega);have f:Byts (selB w.j p):=Zi1 (by omega) (by omega) (Zvb _ _ _);have o:(selB w.j p).length≤40:=(by unfold selB;rw[Zdz];omega);refine wseal_nf ?_;rw[d,Zgy p (by omega)];refine⟨sg_in l p,sg_in l p,_,_,_,_,_,_,_,Zep l p,sg_in l p,_,_,_,_,_,_,_,Zep l p,?_⟩
 dsimp only
 rw[Zar (by omega) (by omega)];have c:=Zzi (p.la-p.fi) w.j.cx.s w.j.cx.a w.j.cx.m (by omega);rw[if_pos ⟨e,by omega⟩]at c;refine Cl.of c ⟨_,_,rfl,Zaa (λh=>by simp at h) (λ_=>?_)⟩;have b:=Zsa w l p d (selB w.j p) f (by omega) (by omega) (by omega) (by omega) (by omega);unfold WrD.sv at b;rw[d]at b;refine Cl.of b ⟨_,_,_,_,_,_,_,_,_,_,_,_,_,_,_,_,_,_,rfl,?_⟩;have g:(putW w l p (selB w.j p)).j.sg=l++[{p with sz:=p.sz+(selB w.j p).length}]:=rfl
 dsimp only
 rw[g];refine⟨sg_in l _,_,_,_,_,_,_,_,Zep l _,Cl.of (Zc9 _) ⟨_,rfl,Cl.of (Zhl _) ⟨_,_,rfl,?_,sg_in l _,_,_,_,_,_,_,_,Zep l _,?_⟩⟩⟩
 ·simp[putW];omega
 ·have e1:=tR_app (putW w l p (selB w.j p)).td (.syn (nmG p.num));have e2:=Zuy l {p with sz:=p.sz+(selB w.j p).length} {p with sz:=p.sz+(selB w.j p).length,sl:=true};unfold Stp.row at e1;unfold SgD.row at e2
  dsimp only at e1 e2⊢
  rw[e1,e2];simp only[WrD.sv,sealW,putW,List.append_assoc,List.cons_append,List.nil_append,List.map_nil]
theorem sgW_snoc(l:List SgD)(p:SgD):rapp (sgR l) [p.row]=sgR (l++[p]):=by simp[rapp]
theorem wbeg_go(w:WrD)(n:Int)(o:nxtN w=n)(p:ctxOK w.j.st.q w.j.st.t)(hl:w.j.sg.length≤100000)(hf:w.j.dk.fs.length≤100000)(ht:w.td.length≤100000)(hs:0≤w.sz∧w.sz≤100000000){Q:List SV→Prop}(d:Q (match begW w with|none=>[B false,w.sv]|some v=>[B true,v.sv])):
  Cl prog 88 sP [I n] (λ(G:List SV)=>ej2 G λs=>(ifB (bpick (seq s (bA [])) true (igt (wadd IntKind.i64 (rlen (fR w.j.dk.fs)) 1) 64)) (Q ([B false,wr18 (fR w.j.dk.fs) w.j.dk.rm w.j.dk.st w.j.dk.dn w.j.cb w.j.cg (sgR w.j.sg) w.j.cx.s w.j.cx.a (nR w.j.cx.m) (coR w.j.st.cs) w.j.st.q w.j.st.t w.j.sure w.j.kept w.j.shut (tR w.td) w.sz])) (Cl prog 141 (Sig.mk [] [Md.own,Md.pure]) ([I n,cx3 w.j.st.q w.j.st.t []]) (λ(r:List SV)=>ej7 r λl x=>(ifB (ine x 0) (Q ([B false,wr18 (fR w.j.dk.fs) w.j.dk.rm w.j.dk.st w.j.dk.dn w.j.cb w.j.cg (sgR w.j.sg) w.j.cx.s w.j.cx.a (nR w.j.cx.m) (coR w.j.st.cs) w.j.st.q w.j.st.t w.j.sure w.j.kept w.j.shut (tR w.td) w.sz])) (Cl prog 142 sP [S s] (λ(u:List SV)=>ej0 u λf g=>(((lsum (rlen (tR w.td)) (rlen ([[SV.clo f g]])))≤((2147483648:Int)))∧(((lsum (rlen (sgR w.j.sg)) (rlen ([[I n,I w.j.st.q,I w.j.st.q,I w.j.st.t,I w.j.st.t,I ((0:Int)),B false]])))≤((2147483648:Int)))∧(Cl prog 140 sgP ([wr18 (fR w.j.dk.fs) w.j.dk.rm w.j.dk.st w.j.dk.dn w.j.cb w.j.cg (rapp (sgR w.j.sg) ([[I n,I w.j.st.q,I w.j.st.q,I w.j.st.t,I w.j.st.t,I ((0:Int)),B false]])) w.j.cx.s w.j.cx.a (nR w.j.cx.m) (coR w.j.st.cs) w.j.st.q w.j.st.t w.j.sure w.j.kept w.j.shut (rapp (tR w.td) ([[SV.clo f g]])) w.sz,SL 1 l]) (λ(y:List SV)=>ej8 y λH J K b L M N x5 x6 l3 O P R T z U V A=>(Q ([B true,wr18 H J K b L M N w.j.st.q w.j.st.t [] O P R T z U V A]))))))))))))):=by
 have D:rlen (fR w.j.dk.fs)=w.j.dk.fs.length:=(by simp);rw[D,Zac (by omega) (by omega)];have W:∀s:ByteArray,seq s (bA [])=decide (s=ByteArray.mk #[]):=λs=>by rw[seq_eq,Zvd]
 have i:inN n→nmG n≠ByteArray.mk #[]:=λh e=>by
  rw[Zgt h]at e;have:=congrArg (λb:ByteArray=>b.data.toList) e;simp only[Zcb]at this
  cases this
 refine Cl.of (Zc9 n) ⟨_,rfl,?_⟩
 dsimp only
 rw[W];refine Zaa (λh=>?_) (λh=>?_)
 ·have:begW w=none:=by
   unfold begW;rw[o,if_pos];by_cases c:inN n
   ·have:=i c
    have h':64<(w.j.dk.fs.length:Int)+1:=by
     unfold nmG at this
     simpa[this]using h
    exact .inr (by omega)
   ·exact .inl c
  rw[this]at d;exact d
 have c:inN n:=Classical.byContradiction λq=>by have:=nmG_no q;unfold nmG at this;rw[this]at h;simp at h
 have E:¬64<w.j.dk.fs.length+1:=(by have:=i c;unfold nmG at this;simp[this]at h;omega);have X:begW w=some ⟨{w.j with sg:=w.j.sg++[⟨n,w.j.st.q,w.j.st.q,w.j.st.t,w.j.st.t,(hedB w.j n).length,false⟩],cx:=⟨w.j.st.q,w.j.st.t,[]⟩},w.td++[.cre (nmG n),.wri (nmG n) (bys (hedB w.j n))],w.sz+(hedB w.j n).length⟩:=(by unfold begW;rw[o,if_neg (λq=>q.elim (λq=>q c) E)]);rw[X]at d;obtain⟨C,Z⟩:=Ztd (j:=w.j) c p;have k:=shead_fn n w.j.st.q w.j.st.t [] (by simp);have Y:headE n w.j.st.q w.j.st.t []=(hedB w.j n,0):=(by unfold headE;rw[if_neg (by have:=c.1;have:=c.2;omega),if_neg (by simp[p])];rfl);rw[Y]at k;refine Cl.of k ⟨_,_,rfl,Zaa (λh=>by simp at h) (λ_=>Cl.of (Zwz _) ⟨_,_,rfl,?_,?_,?_⟩)⟩
 ·simp;omega
 ·simp;omega
 have e1:=tR_app w.td (.cre (nmG n));have e2:=sgW_snoc w.j.sg ⟨n,w.j.st.q,w.j.st.q,w.j.st.t,w.j.st.t,0,false⟩;unfold Stp.row nmG at e1;unfold SgD.row at e2
 dsimp only at e1 e2⊢
 rw[e1,e2];have F:=Zsa ⟨{w.j with sg:=w.j.sg++[⟨n,w.j.st.q,w.j.st.q,w.j.st.t,w.j.st.t,0,false⟩]},w.td++[.cre (Sgr.segNm n)],w.sz⟩ w.j.sg _ rfl (hedB w.j n) C (by omega) (by simp;omega) (by omega) (by simp) (by dsimp only;omega);refine Cl.of F ⟨_,_,_,_,_,_,_,_,_,_,_,_,_,_,_,_,_,_,rfl,?_⟩;simp only[WrD.sv,putW,List.append_assoc,List.cons_append,List.nil_append,List.map_nil,Int.zero_add]at d⊢;exact d
theorem wbegin_fn(w:WrD)(k:∀l p,w.j.sg=l++[p]→0≤p.num∧p.num≤99999999)(d:ctxOK w.j.st.q w.j.st.t)(a:w.j.sg.length≤100000)(f:w.j.dk.fs.length≤100000)(g:w.td.length≤100000)(i:0≤w.sz∧w.sz≤100000000):
  Ct prog 75 sgW [w.sv] (λr=>r=match begW w with|none=>[B false,w.sv]|some v=>[B true,v.sv]):=by
 refine wbegin_nf ?_
 rcases Y2 w.j.sg with e|⟨l,p,e⟩
 ·have c:nxtN w=1:=(by unfold nxtN;rw[e];rfl);have h:=wbeg_go w 1 c d a f g i (Q:=λr=>r=match begW w with|none=>[B false,w.sv]|some v=>[B true,v.sv]) rfl;refine Zaa (λh=>by rw[e]at h;simp at h) (λ_=>h)
 ·rw[List.concat_eq_append]at e;have c:nxtN w=p.num+1:=by unfold nxtN;rw[e,Zas]
  have n:=k l p e;have h:=wbeg_go w (p.num+1) c d a f g i (Q:=λr=>r=match begW w with|none=>[B false,w.sv]|some v=>[B true,v.sv]) rfl;have m:l.length≤100000:=(by rw[e]at a;simp at a;omega);rw[←Zac (by omega) (by omega)]at h;refine Zaa (λ_=>?_) (λh=>by rw[e]at h;simp at h<;>omega);have b:inR (wsub IntKind.i64 (rlen (sgR w.j.sg)) 1) (sgR w.j.sg):=(by rw[e,Zgy p (by omega)];exact sg_in l p);exact⟨b,b,_,_,_,_,_,_,_,by rw[e,Zgy p (by omega)];exact Zep l p,h⟩
theorem Zsb{j:JoD}{e:Cod.EvD}(h:encE j.cx.s j.cx.a j.cx.m e=0):Byts (recL' j e)∧(recL' j e).length≤127:=by
 have:=Zh0 (Zcy.1 h);exact⟨Zi1 (by omega) (by omega) Zip,by unfold recL';rw[Zdz];omega⟩
theorem wrec_fn(w:WrD)(e:Cod.EvD)(l:List SgD)(p:SgD)(D:w.j.sg=l++[p])(hl:l.length≤100000)(ht:w.td.length≤100000)(hp:0≤p.sz∧p.sz≤100000000)(hs:0≤w.sz∧w.sz≤100000000):
  Ct prog 76 sgW [w.sv,e.sv] (λr=>r=match recW w e with|none=>[B false,w.sv]|some v=>[B true,v.sv]):=by
 have u:=Zt1 w.j.cx.s w.j.cx.a w.j.cx.m e;unfold addR at u
 have C:∀Q:List SV→Prop,Q (match recW w e with|none=>[B false,w.sv]|some v=>[B true,v.sv])→Cl prog 138 sP ([cx3 w.j.cx.s w.j.cx.a (nR w.j.cx.m),ev7 e.s e.a e.k e.c e.x e.y e.z]) (λ(U:List SV)=>ej6 U λl x V W X=>(ifB (ine X 0) (Q ([B false,wr18 (fR w.j.dk.fs) w.j.dk.rm w.j.dk.st w.j.dk.dn w.j.cb w.j.cg (sgR w.j.sg) w.j.cx.s w.j.cx.a (nR w.j.cx.m) (coR w.j.st.cs) w.j.st.q w.j.st.t w.j.sure w.j.kept w.j.shut (tR w.td) w.sz])) (Cl prog 140 sgP ([wr18 (fR w.j.dk.fs) w.j.dk.rm w.j.dk.st w.j.dk.dn w.j.cb w.j.cg (sgR w.j.sg) w.j.cx.s w.j.cx.a (nR w.j.cx.m) (coR w.j.st.cs) w.j.st.q w.j.st.t w.j.sure w.j.kept w.j.shut (tR w.td) w.sz,SL 1 l]) (λ(F:List SV)=>ej8 F λY Z x4 b x5 x6 d x7 x8 l4 l5 x9 G H J b1 l6 K=>((inR (wsub IntKind.i64 (rlen d) 1) d)∧((inR (wsub IntKind.i64 (rlen d) 1) d)∧(ej5 (rget d (wsub IntKind.i64 (rlen d) 1)) λf g a0 i n o E=>((inR (wsub IntKind.i64 (rlen d) 1) (rset d (wsub IntKind.i64 (rlen d) 1) [I f,I g,I e.s,I i,I n,I o,B E]))∧(ej5 (rget (rset d (wsub IntKind.i64 (rlen d) 1) [I f,I g,I e.s,I i,I n,I o,B E]) (wsub IntKind.i64 (rlen d) 1)) λL M N O a1 P b3=>(Q ([B true,wr18 Y Z x4 b x5 x6 (rset (rset d (wsub IntKind.i64 (rlen d) 1) [I f,I g,I e.s,I i,I n,I o,B E]) (wsub IntKind.i64 (rlen d) 1) [I L,I M,I N,I O,I e.a,I P,B b3]) x V W l5 x9 G H J b1 l6 K]))))))))))):=by
  intro Q A;by_cases hE:encE w.j.cx.s w.j.cx.a w.j.cx.m e=0
  rotate_left
  ·rw[if_neg hE]at u;have:recW w e=none:=by unfold recW;rw[D,Zas];simp[hE]
   rw[this]at A;exact Cl.of u ⟨_,_,_,_,_,rfl,Zaa (λ_=>A) (λh=>by simp at h;exact absurd h hE)⟩
  rw[if_pos hE]at u;obtain⟨R,a2⟩:=Zsb hE;have hr:recW w e=some ⟨{w.j with sg:=l++[{p with sz:=p.sz+(recL' w.j e).length,la:=e.s,ti:=e.a}],cx:=⟨e.s,e.a,bhdN w.j.cx.m e.c⟩},w.td++[.wri (nmG p.num) (bys (recL' w.j e))],w.sz+(recL' w.j e).length⟩:=(by unfold recW;rw[D,Zas];simp[hE]);rw[hr]at A;refine Cl.of u ⟨_,_,_,_,_,rfl,Zaa (λh=>by simp at h) (λ_=>Cl.of (Zsa w l p D (recL' w.j e) R (by omega) (by omega) (by omega) (by omega) (by omega)) ⟨_,_,_,_,_,_,_,_,_,_,_,_,_,_,_,_,_,_,rfl,?_⟩)⟩;have T:(putW w l p (recL' w.j e)).j.sg=l++[{p with sz:=p.sz+(recL' w.j e).length}]:=rfl
  dsimp only
  rw[T,Zgy _ (by omega)];refine⟨sg_in l _,sg_in l _,_,_,_,_,_,_,_,Zep l _,?_⟩;have e1:=Zuy l {p with sz:=p.sz+(recL' w.j e).length} {p with sz:=p.sz+(recL' w.j e).length,la:=e.s};unfold SgD.row at e1
  dsimp only at e1⊢
  rw[e1];refine⟨sg_in l _,_,_,_,_,_,_,_,Zep l _,?_⟩;have e2:=Zuy l {p with sz:=p.sz+(recL' w.j e).length,la:=e.s} {p with sz:=p.sz+(recL' w.j e).length,la:=e.s,ti:=e.a};unfold SgD.row at e2
  dsimp only at e2⊢
  rw[e2];exact A
 exact wrec_nf ⟨C (λr=>r=match recW w e with|none=>[B false,w.sv]|some v=>[B true,v.sv]) rfl,C (λr=>r=match recW w e with|none=>[B false,w.sv]|some v=>[B true,v.sv]) rfl⟩
theorem jover_fn(j:JoD)(e:Cod.EvD)(d:j.sg.length≤100000)(k:∀p∈j.sg,0≤p.sz∧p.sz≤1000000000∧0≤p.fr∧p.fr≤1099511627776)(u:0≤e.a∧e.a≤9223372036854775807):Ct prog 71 {} [j.sv,e.sv] (λr=>r=[B (ovrB j e)]):=by
 refine jover_nf ?_
 rcases Y2 j.sg with h|⟨l,p,h⟩
 ·have:ovrB j e=false:=(by unfold ovrB;rw[h];rfl);refine Zaa (λ_=>by rw[this]) (λg=>by rw[h]at g;simp at g)
 rw[List.concat_eq_append]at h;have t:l.length≤100000:=by rw[h]at d;simp at d;omega
 have v:=k p (by rw[h];simp);have f:inR (wsub IntKind.i64 (rlen (sgR j.sg)) 1) (sgR j.sg):=(by rw[h,Zgy p (by omega)];exact sg_in l p);have b:ovrB j e=if p.sl=true∨p.la≤p.fi then false else if encE j.cx.s j.cx.a j.cx.m e≠0∨j.cb<p.sz+(recL' j e).length then true else decide (j.cg<e.a-p.fr):=(by unfold ovrB;rw[h,Zas]);have c:=Zt1 j.cx.s j.cx.a j.cx.m e
 unfold addR at c;refine Zaa (λg=>by rw[h]at g;simp at g<;>omega) (λ_=>⟨f,_,_,_,_,_,_,_,by rw[h,Zgy p (by omega)];exact Zep l p,Zaa (λg=>?_) (λg=>?_)⟩)
 ·have g:p.sl=true∨p.la≤p.fi:=by cases hs:p.sl<;>simp[hs]at g⊢;exact g
  rw[b,if_pos g]
 have g:¬(p.sl=true∨p.la≤p.fi):=by cases hs:p.sl<;>simp[hs]at g⊢;exact g
 rw[if_neg g]at b;by_cases hE:encE j.cx.s j.cx.a j.cx.m e=0
 rotate_left
 ·rw[if_neg hE]at c;rw[if_pos (.inl hE)]at b;exact Cl.of c ⟨_,_,_,_,_,rfl,Zaa (λ_=>by rw[b]) (λq=>by simp[hE]at q)⟩
 rw[if_pos hE]at c;obtain⟨n,o⟩:=Zsb hE;have i:rlen (bR (fr 2 (encL j.cx.s j.cx.a j.cx.m e)))=(recL' j e).length:=(by simp[recL']);refine Cl.of c ⟨_,_,_,_,_,rfl,?_⟩
 dsimp only
 rw[i,Zac (by omega) (by omega),Zar (by omega) (by omega)];refine Zaa (λq=>?_) (λq=>?_)
 ·have q:j.cb<p.sz+(recL' j e).length:=(by simpa using q);rw[b,if_pos (.inr q)]
 ·have q:¬j.cb<p.sz+(recL' j e).length:=(by simpa using q);rw[b,if_neg (λz=>z.elim (λz=>z hE) q)];rfl
structure WB(w:WrD)(j:JoD)(n:Nat):Prop where
 dk:w.j.dk=j.dk
 st:w.j.st=j.st
 len:w.j.sg.length≤n
 td:w.td.length≤n
 sz:0≤w.sz∧w.sz≤n
 ps:∀p∈w.j.sg,(0≤p.sz∧p.sz≤65536+n)∧(1≤p.num∧p.num≤99999999)
 ok:∀s∈w.td,s.ok
theorem wri_ok{s:ByteArray}{b:List Int}(h:b.length≤1000):(Stp.wri s (bys b)).ok:=by
 show(bys b).length≤_;unfold bys;rw[List.length_map];omega
theorem selB_len{j:JoD}(h:Fct j){p:SgD}(b:p∈j.sg):(selB j p).length≤40:=by
 have c:=(Zbd.1 h.cx).1;have d:=h.ps p b;have:=slP_le (n:=p.la-p.fi) (s:=j.cx.s) (a:=j.cx.a) (by omega) (by omega) (by omega);unfold selB;rw[Zdz];omega
theorem w0_B{j:JoD}(h:Fct j):WB (w0 j) j 64:=
 ⟨rfl,rfl,h.len,by simp[w0],by simp[w0],λp a=>by have:=h.ps p a;exact⟨by omega,this.2.1⟩,λs b=>by simp[w0]at b⟩
theorem seal_B{j:JoD}(h:Fct j){l:List SgD}{p:SgD}(a:j.sg=l++[p]):WB (sealW (w0 j) l p) j 110:=by
 have d:=selB_len h (p:=p) (by rw[a];simp);have c:=h.len;rw[a]at c;simp at c;have e:=h.ps p (by rw[a];simp);refine⟨rfl,rfl,by simp[sealW];omega,by simp[sealW,w0],?_,?_,?_⟩
 ·have:(sealW (w0 j) l p).sz=0+((selB j p).length:Int):=rfl;omega
 ·intro q b;have b:q∈l++[{p with sz:=p.sz+(selB j p).length,sl:=true}]:=b
  rcases List.mem_append.1 b with b|b
  ·have:=h.ps q (by rw[a];simp[b]);exact⟨by omega,this.2.1⟩
  ·have:q={p with sz:=p.sz+(selB j p).length,sl:=true}:=(by simpa using b);subst this
   dsimp only;omega
 ·intro s a;have a:s∈([]:List Stp)++[.wri (nmG p.num) (bys (selB j p)),.syn (nmG p.num)]:=a;simp at a
  rcases a with rfl|rfl
  ·exact wri_ok (by omega)
  ·trivial
theorem w1_B{j:JoD}(h:Fct j)(e:Cod.EvD):WB (w1 j e) j 110:=by
 have a:WB (w0 j) j 110:=(by have:=w0_B h;exact⟨this.dk,this.st,by have:=this.len;omega,by have:=this.td;omega,by have:=this.sz;omega,λp b=>by have:=this.ps p b;omega,this.ok⟩);unfold w1
 rcases Y2 j.sg with hs|⟨l,p,hs⟩
 ·rw[hs];exact a
 ·rw[List.concat_eq_append]at hs;rw[hs,Zas]
  dsimp only
  split
  ·exact seal_B h hs
  ·exact a
theorem w2_B{j:JoD}(h:Fct j)(e:Cod.EvD){w:WrD}(c:w2 j e=some w):WB w j 170∧∃l p,w.j.sg=l++[p]:=by
 have a:=w1_B h e;unfold w2 at c
 split at c
 ·rename_i g
  cases c
  refine⟨⟨a.dk,a.st,by have:=a.len;omega,by have:=a.td;omega,by have:=a.sz;omega,λp i=>by have:=a.ps p i;omega,a.ok⟩,?_⟩
  rcases Y2 (w1 j e).j.sg with b|⟨l,p,b⟩
  ·unfold opnW at g;rw[b]at g;cases g
  ·exact⟨l,p,by rw[b,List.concat_eq_append]⟩
 ·unfold begW at c
  split at c
  ·cases c
  rename_i k
  cases c
  have f:inN (nxtN (w1 j e)):=Classical.byContradiction λq=>k (.inl q);have n:=(Ztd (j:=(w1 j e).j) f (by rw[a.st];exact st_ctx h.st)).2;have m:=a.sz;refine⟨⟨a.dk,a.st,by have:=a.len;simp;omega,by have:=a.td;simp;omega,by dsimp only;omega,?_,?_⟩,_,_,rfl⟩
  ·intro q d
   rcases List.mem_append.1 d with d|d
   ·have:=a.ps q d;omega
   ·have:q=_:=List.mem_singleton.1 d;subst this;exact⟨by dsimp only;omega,f⟩
  ·intro s b
   rcases List.mem_append.1 b with b|b
   ·exact a.ok s b
   ·simp at b
    rcases b with rfl|rfl
    ·trivial
    ·exact wri_ok (by omega)
theorem rec_B{w v:WrD}{j:JoD}(h:WB w j 170){e:Cod.EvD}(b:recW w e=some v):WB v j 300:=by
 rcases Y2 w.j.sg with a|⟨l,p,a⟩
 ·unfold recW at b;rw[a]at b;cases b
 rw[List.concat_eq_append]at a;unfold recW at b;rw[a,Zas]at b
 dsimp only at b
 split at b
 ·cases b
 rename_i f
 cases b
 have i:=(Zsb (j:=w.j) (e:=e) (by simpa using f)).2;have d:=h.len;rw[a]at d;simp at d;have k:=h.ps p (by rw[a];simp);have g:=h.sz;refine⟨h.dk,h.st,by simp;omega,by have:=h.td;simp;omega,by dsimp only;omega,?_,?_⟩
 ·intro q c
  rcases List.mem_append.1 c with c|c
  ·have:=h.ps q (by rw[a];simp[c]);omega
  ·have:q=_:=List.mem_singleton.1 c;subst this
   dsimp only;omega
 ·intro s a
  rcases List.mem_append.1 a with a|a
  ·exact h.ok s a
  ·simp at a;subst a;exact wri_ok (by omega)
theorem segcl_fn(l:List SgD)(h:l.length≤1000000):Ct prog 70 ⟨[],[.own]⟩ [SL 7 (sgR l)] (λr=>r=[SL 7 (sgR l)]):=by
 refine segcl_nf (λb a=>Zaa (λe=>?_) (λe=>⟨?_,?_⟩))
 ·have:=a e;have:l=[]:=(by simpa using this);rw[this];rfl
 ·simp;omega
 ·simp[rapp]
theorem Zvo(j:JoD):Ct prog 73 {} [j.sv] (λr=>r=[(shtJ j).1.sv,I 13]):=jshut_nf rfl
theorem Zoz(j:JoD)(T:j.ok)(e:Cod.EvD)(he: -9223372036854775808≤e.a∧e.a≤9223372036854775807):Ct prog 20 {} [j.sv,e.sv] (λr=>r=[(appP j e).1.sv,I (appP j e).2]):=by
 refine Zx4 (Cl.of (Zzh j T) ⟨_,rfl,Zaa (λg=>?_) (λg=>?_)⟩)
 ·have g:mayJ j≠0:=(by simpa using g);unfold appP;rw[if_pos g];rfl
 have g:mayJ j=0:=(by simpa using g);have hR:=Zfq.1 g;have f:=hR.fct;have hst:=f.st.1;have eP:appP j e=appQ j e:=(by unfold appP;rw[if_neg (by simp[g])]);rw[eP];have hw:wadd IntKind.i64 j.st.q 1=j.st.q+1:=Zac (by omega) (by omega);rw[hw];refine Cl.of (Zp7 j.st (by omega) (toE (evN j e))) ⟨_,_,_,_,rfl,Zaa (λg=>?_) (λg=>Zaa (λz=>?_) (λz=>?_))⟩
 ·have g:(appS j.st (toE (evN j e))).2≠0:=(by simpa using g);unfold appQ;rw[if_pos g];rfl
 ·have g:¬(appS j.st (toE (evN j e))).2≠0:=(by simpa using g);unfold appQ;rw[if_neg g,if_pos z];rfl
 have g:(appS j.st (toE (evN j e))).2=0:=by simpa using g
 have eQ:appQ j e=match w3 j (evN j e)with|none=>shtJ j|some w=>endJ j (appS j.st (toE (evN j e))).1 w:=by unfold appQ;rw[if_neg (by simp[g]),if_neg (by simp[z])];rfl
 have a0:0≤e.a:=(by have:=(appS_may g).tm;have h2:j.st.t≤(toE (evN j e)).a:=this;have:(toE (evN j e)).a=e.a:=rfl;omega);have R:w3 j (evN j e)=none→Cl prog 73 sP [j.sv] (λrs=>ej19 rs λG i k b3 m n H o s J u x y A C K D=>[jr16 G i k b3 m n H o s J u x y A C K,I D]=[(appQ j e).1.sv,I (appQ j e).2]):=λq=>by rw[eQ,q];exact Cl.of (Zvo j) ⟨_,_,_,_,_,_,_,_,_,_,_,_,_,_,_,_,_,rfl,rfl⟩
 have h:=w1_B f (evN j e);refine Cl.of (segcl_fn j.sg T.sg) ⟨_,rfl,?_⟩;refine⟨λb Z x4 x5 b1 x6 x7 l3 x8 x9 l4 l5 L M N O b2 l6 P=>b=false∧wr18 Z x4 x5 b1 x6 x7 l3 x8 x9 l4 l5 L M N O b2 l6 P=(w1 j (evN j e)).sv,λ_ _ _ _ _ _ _ _ _ _ _ _ _ _ _ _ _ _ _=>0,?_,?_⟩
 ·refine Cl.of (jover_fn j (evN j e) (by have:=f.len;omega) (λp U=>by have:=f.ps p U;omega) ⟨a0,he.2⟩) ⟨_,rfl,Zaa (λq=>?_) (λq=>⟨rfl,rfl,?_⟩)⟩
  ·rcases Y2 j.sg with c|⟨l,p,c⟩
   ·unfold ovrB at q;rw[c]at q;cases q
   rw[List.concat_eq_append]at c;have U:=f.ps p (by rw[c];simp);have F:=f.len;rw[c]at F;simp at F;have:w1 j (evN j e)=sealW (w0 j) l p:=by unfold w1;rw[c,Zas];simp[q]
   rw[this];exact Cl.of (wseal_fn (w0 j) l p c f.cx (by omega) (by omega) (by omega) (by omega) (by simp[w0]) (by omega) (by simp[w0])) ⟨_,_,_,_,_,_,_,_,_,_,_,_,_,_,_,_,_,_,_,rfl,rfl,rfl,rfl⟩
  ·have:w1 j (evN j e)=w0 j:=by
    unfold w1
    rcases Y2 j.sg with c|⟨l,p,c⟩
    ·rw[c];rfl
    ·rw[c,List.concat_eq_append,Zas];simp[q]
   rw[this];rfl
 rintro b Z x4 x5 b1 x6 x7 l3 x8 x9 l4 l5 L M N O b2 l6 P ⟨rfl,hv⟩;rw[hv];refine Zaa (λq=>by cases q) (λ_=>?_);refine⟨λb3 G i k K m n H o s J u x y A C b5 Q D=>match w2 j (evN j e)with|none=>b3=true|some v=>b3=false∧wr18 G i k K m n H o s J u x y A C b5 Q D=v.sv,λ_ _ _ _ _ _ _ _ _ _ _ _ _ _ _ _ _ _ _=>0,?_,?_⟩
 ·refine Cl.of (wopen_fn (w1 j (evN j e)) (by have:=h.len;omega)) ⟨_,_,_,_,_,_,_,_,_,_,_,_,_,_,_,_,_,_,_,rfl,Zaa (λq=>?_) (λq=>⟨rfl,?_⟩)⟩
  ·have q:opnW (w1 j (evN j e))=false:=(by simpa using q);have e2:w2 j (evN j e)=begW (w1 j (evN j e)):=(by unfold w2;rw[if_neg (by simp[q])]);have hb:=wbegin_fn (w1 j (evN j e)) (λl p c=>by have:=h.ps p (by rw[c];simp);omega) (by rw[h.st];exact st_ctx f.st) (by have:=h.len;omega) (by rw[h.dk];have:=f.fs;omega) (by have:=h.td;omega) (by have:=h.sz;omega);refine Cl.ofQ hb ?_;rintro r rfl;rw[e2]
   cases begW (w1 j (evN j e))with
   |none=>exact⟨_,_,_,_,_,_,_,_,_,_,_,_,_,_,_,_,_,_,_,rfl,rfl,rfl⟩
   |some v=>exact⟨_,_,_,_,_,_,_,_,_,_,_,_,_,_,_,_,_,_,_,rfl,rfl,rfl,rfl⟩
  ·have q:opnW (w1 j (evN j e))=true:=(by simpa using q);have e2:w2 j (evN j e)=some (w1 j (evN j e)):=(by unfold w2;rw[if_pos q]);rw[e2];exact⟨rfl,rfl⟩
 rintro b3 G i k K m n H o s J u x y A C b5 Q D d
 cases hw2:w2 j (evN j e)with
 |none=>rw[hw2]at d;have d:b3=true:=d;subst d;exact Zaa (λ_=>R (by unfold w3;rw[hw2])) (λq=>by cases q)
 |some w=>
  rw[hw2]at d;obtain⟨rfl,d⟩:=d;rw[d];obtain⟨E,l,p,c⟩:=w2_B f _ hw2;have e3:w3 j (evN j e)=recW w (evN j e):=by unfold w3;rw[hw2]
  have F:=E.len;rw[c]at F;simp at F;have U:=E.ps p (by rw[c];simp);refine Zaa (λq=>by cases q) (λ_=>?_);have V:=wrec_fn w (evN j e) l p c (by omega) (by have:=E.td;omega) (by omega) (by have:=E.sz;omega);refine Cl.ofQ V ?_;rintro r rfl
  cases hr:recW w (evN j e)with
  |none=>refine⟨_,_,_,_,_,_,_,_,_,_,_,_,_,_,_,_,_,_,_,rfl,Zaa (λ_=>R (by rw[e3,hr])) (λq=>by simp at q)⟩
  |some v=>
   have W:=rec_B E hr;have X:=T.dk;have hu:=X.1;have Y:appQ j e=endJ j (appS j.st (toE (evN j e))).1 v:=(by rw[eQ,e3,hr]);have a1:=W.sz;refine⟨_,_,_,_,_,_,_,_,_,_,_,_,_,_,_,_,_,_,_,rfl,Zaa (λq=>by simp at q) (λ_=>Cl.of (Zo2 j.dk X) ⟨_,rfl,?_⟩)⟩
   dsimp only
   rw[Zac (by omega) (by omega)];refine Zaa (λq=>?_) (λq=>?_)
   ·have q:j.dk.rm<usedL j.dk.fs+v.sz:=(by simpa using q);have:endJ j (appS j.st (toE (evN j e))).1 v=shtJ j:=(by unfold endJ;rw[if_pos q]);rw[Y,this];exact Cl.of (Zvo j) ⟨_,_,_,_,_,_,_,_,_,_,_,_,_,_,_,_,_,rfl,rfl⟩
   ·have q:¬j.dk.rm<usedL j.dk.fs+v.sz:=(by simpa using q);refine Cl.of (Zrz j.dk X v.td W.ok (by have:=W.td;omega)) ⟨_,_,_,_,_,rfl,Zaa (λz=>?_) (λz=>?_)⟩
    ·have z:(runP j.dk v.td).2≠0:=(by simpa using z);have:endJ j (appS j.st (toE (evN j e))).1 v=({j with dk:=(runP j.dk v.td).1},(runP j.dk v.td).2):=(by unfold endJ;rw[if_neg q,if_pos z]);rw[Y,this];rfl
    ·have z:¬(runP j.dk v.td).2≠0:=(by simpa using z);have:endJ j (appS j.st (toE (evN j e))).1 v=({v.j with dk:=(runP j.dk v.td).1,st:=(appS j.st (toE (evN j e))).1},0):=(by unfold endJ;rw[if_neg q,if_neg z]);rw[Y,this];rfl
theorem jsyn_fn(j:JoD)(k:j.ok):Ct prog 22 {} [j.sv] (λr=>r=[(synJ j).1.sv,I (synJ j).2]):=by
 refine jsyn_nf (Cl.of (Zzh j k) ⟨_,rfl,Zaa (λg=>?_) (λg=>?_)⟩)
 ·have g:mayJ j≠0:=(by simpa using g);unfold synJ;rw[if_pos g];rfl
 have g:mayJ j=0:=(by simpa using g);have n:=(Zfq.1 g).fct;have o:synJ j=synQ j:=(by unfold synJ;rw[if_neg (by simp[g])]);rw[o]
 rcases Y2 j.sg with e|⟨l,p,e⟩
 ·have:synQ j=({j with sure:=j.st.q},0):=(by unfold synQ;rw[e];rfl);rw[this];exact Zaa (λq=>by rw[e]at q;simp at q) (λ_=>rfl)
 rw[List.concat_eq_append]at e;have m:=n.len;rw[e]at m;simp at m;have f:synQ j=if p.sl=true then({j with sure:=j.st.q},0)else if(Za3 j.dk (nmG p.num)).2≠0 then({j with dk:=(Za3 j.dk (nmG p.num)).1},(Za3 j.dk (nmG p.num)).2)else({j with dk:=(Za3 j.dk (nmG p.num)).1,sure:=j.st.q},0):=by unfold synQ;rw[e,Zas]
 have h:inR (wsub IntKind.i64 (rlen (sgR j.sg)) 1) (sgR j.sg):=(by rw[e,Zgy p (by omega)];exact sg_in l p);have i:rget (sgR j.sg) (wsub IntKind.i64 (rlen (sgR j.sg)) 1)=p.row:=(by rw[e,Zgy p (by omega)];exact Zep l p);refine Zaa (λ_=>⟨h,_,_,_,_,_,_,_,i,Zaa (λq=>?_) (λq=>?_)⟩) (λq=>by rw[e]at q;simp at q<;>omega)
 ·have q:p.sl=false:=(by simpa using q);rw[if_neg (by simp[q])]at f;have d:=Zrz j.dk k.dk [.syn (nmG p.num)] (λs e=>by simp at e;subst e;trivial) (by simp);rw[run1]at d;refine⟨λx l a b c=>x=(Za3 j.dk (nmG p.num)).2∧dk4 l a b c=(Za3 j.dk (nmG p.num)).1.sv,λ_ _ _ _ _=>0,⟨h,_,_,_,_,_,_,_,i,?_⟩,?_⟩
  ·exact⟨Cl.of (Zc9 _) ⟨_,rfl,⟨Cl.of (Zhl _) ⟨_,_,rfl,⟨⟨Cl.of d ⟨_,_,_,_,_,rfl,rfl,rfl,rfl⟩,Cl.of d ⟨_,_,_,_,_,rfl,rfl,rfl,rfl⟩⟩,Cl.of d ⟨_,_,_,_,_,rfl,rfl,rfl,rfl⟩⟩⟩,Cl.of (Zhl _) ⟨_,_,rfl,Cl.of d ⟨_,_,_,_,_,rfl,rfl,rfl,rfl⟩⟩⟩⟩,Cl.of (Zc9 _) ⟨_,rfl,Cl.of (Zhl _) ⟨_,_,rfl,Cl.of d ⟨_,_,_,_,_,rfl,rfl,rfl,rfl⟩⟩⟩⟩
  ·rintro x l a b c ⟨rfl,hd⟩;simp only[SV.agg.injEq,List.cons.injEq,SV.val.injEq,Value.int.injEq,Value.bool.injEq,SV.slice.injEq,true_and,and_true]at hd;obtain⟨rfl,rfl,rfl,rfl⟩:=hd;refine Zaa (λz=>?_) (λz=>?_)
   ·have z:(Za3 j.dk (nmG p.num)).2≠0:=(by simpa using z);rw[f,if_pos z];rfl
   ·have z:¬(Za3 j.dk (nmG p.num)).2≠0:=(by simpa using z);rw[f,if_neg z];rfl
 ·have q:p.sl=true:=(by simpa using q);rw[f,if_pos q];rfl
end Jou
namespace Jou
open Go Go.Px Go.Proofs Cod Tryz
abbrev en0(r:List SV)(K:(List (List SV))→Int→Int→Bool→Int→Int→(List (List SV))→Int→Int→(List (List SV))→(List (List SV))→Int→Int→Int→Int→Bool→Int→Prop):Prop:=∃h:List (List SV),∃i:Int,∃j:Int,∃k:Bool,∃l:Int,∃m:Int,∃n:List (List SV),∃o:Int,∃p:Int,∃q:List (List SV),∃a:List (List SV),∃b:Int,∃c:Int,∃d:Int,∃e:Int,∃f:Bool,∃g:Int,(r=[jr16 h i j k l m n o p q a b c d e f,I g])∧K h i j k l m n o p q a b c d e f g
abbrev en1(r:List SV)(K:(List (List SV))→Prop):Prop:=∃a:List (List SV),(r=[SL 7 a])∧K a
abbrev en2(r:List SV)(K:Int→Int→Int→ByteArray→Int→Int→Int→Prop):Prop:=∃a:Int,∃b:Int,∃c:Int,∃d:ByteArray,∃e:Int,∃f:Int,∃g:Int,(r=[I a,I b,I c,S d,I e,I f,I g])∧K a b c d e f g
abbrev en3(r:List SV)(K:Int→Int→Int→Int→Int→Int→Bool→Prop):Prop:=∃a:Int,∃b:Int,∃c:Int,∃d:Int,∃e:Int,∃f:Int,∃g:Bool,(r=[I a,I b,I c,I d,I e,I f,B g])∧K a b c d e f g
abbrev en4(r:List SV)(K:Bool→Prop):Prop:=∃a:Bool,(r=[B a])∧K a
abbrev en5(r:List SV)(K:ByteArray→Prop):Prop:=∃a:ByteArray,(r=[S a])∧K a
abbrev en6(r:List SV)(K:(List (List SV))→Int→Int→Bool→Int→Prop):Prop:=∃a:List (List SV),∃b:Int,∃c:Int,∃d:Bool,∃e:Int,(r=[dk4 a b c d,I e])∧K a b c d e
theorem Zzo{Q:QQ}(h:Cl prog 13 sP ([dk4 [] 900 ((-1:Int)) false,SV.agg [I 64,I 99]]) (λrs=>en0 rs λl x x1 b x2 x3 l1 x4 x5 l2 l3 x6 x7 x8 x9 b1 w=>(Cl prog 20 sP ([jr16 l x x1 b x2 x3 l1 x4 x5 l2 l3 x6 x7 x8 x9 b1,ev7 0 3 1 (bA [98]) 1 0 0]) (λy=>en0 y λl4 z A b2 C D l5 E F l6 l7 G H J K b3 L=>(Cl prog 22 sP ([jr16 l4 z A b2 C D l5 E F l6 l7 G H J K b3]) (λM=>en0 M λl8 N O b4 P R l9 T U V W X Y Z a0 b5 a1=>(Cl prog 20 sP ([jr16 l8 N O b4 P R l9 T U V W X Y Z a0 b5,ev7 0 4 3 (bA [98]) 1 9 0]) (λa2=>en0 a2 λa3 a4 a5 b6 a6 a7 a8 a9 aa ab ac ad ae af ag b7 ah=>(Cl prog 20 sP ([jr16 a3 a4 a5 b6 a6 a7 a8 a9 aa ab ac ad ae af ag b7,ev7 0 4 3 (bA [98]) 1 900000 0]) (λai=>en0 ai λaj ak al b8 am an ao ap aq ar au av aw ax ay b9 az=>(Cl prog 20 sP ([jr16 aj ak al b8 am an ao ap aq ar au av aw ax ay b9,ev7 0 4 3 (bA [98]) 1 9 0]) (λb0=>en0 b0 λg i j k m n a o p q r c t d u v ba=>(Cl prog 15 sP ([jr16 g i j k m n a o p q r c t d u v]) (λbb=>en1 bb λe=>(ifB (bpick (bpick (bpick (bpick (bpick (bpick (ieq w 0) (ieq L 0) false) (ieq a1 0) false) (ieq ah 0) false) (ieq az 0) false) (ieq ba 0) false) (ieq (rlen e) 4) false) ((inR 3 e)∧en2 (rget e 3) λbc bg bh s bi bj bk=>(ifB (bpick (ieq bc 4) (igt (rlen a) 1) false) ((inR 0 a)∧en3 (rget a 0) λbl bm bn bo bp bq bd=>(ifB (bpick (bpick bd (ige d 1) false) (ieq c 4) false) (Cl prog 17 sP ([jr16 g i j k m n a o p q r c t d u v]) (λbe=>en4 be λbf=>(Q [B bf]))) (Q [B false]))) (Q [B false]))) (Q [B false])))))))))))))))):Ct prog 10 {} [] Q:=
 fN SgT SvT func10 h
theorem Zw1{rows:LL}{n d:Int}{o:Bool}{D E:Int}{segs:LL}{F G:Int}{H J:LL}{K L p q:Int}{r:Bool}{e:LL}{g c:Int}{i:Bool}{s t:Int}{a:LL}{u v:Int}{w y:LL}{z A j k:Int}{l:Bool}{Q:QQ}(h:ifB (bpick (bpick (bpick (bpick (ine (rlen segs) (rlen a)) true (bnot (band (ieq D s) (band (ieq E t) true)))) true (ine p j)) true (ine q k)) true (bnot (beqB r l))) (Q [B false]) (∃C:Bool→Int→Prop,∃m:Bool→Int→Nat,(C false 0)∧∀b x,(C b x)→ifB (ilt x (rlen segs)) ((inR x segs)∧en3 (rget segs x) λV W X Y Z x6 M=>((inR x a)∧en3 (rget a x) λx7 x8 x9 O P R N=>(ifB (bnot (band (ieq V x7) (band (ieq W x8) (band (ieq X x9) (band (ieq Y O) (band (ieq Z P) (band (ieq x6 R) (band (beqB M N) true)))))))) (Q [B false]) ((sm ([[SL 3 e,I g,I c,B i,I s,I t,SL 7 a,I u,I v,SL 1 w,SL 21 y,I z,I A,I j,I k,B l],[SL 3 rows,I n,I d,B o,I D,I E,SL 7 segs,I F,I G,SL 1 H,SL 21 J,I K,I L,I p,I q,B r]]))∧(C b (wadd .i64 x 1))∧Nat.le (Nat.succ (m b (wadd .i64 x 1))) (m b x))))) (Cl prog 14 sP ([dk4 rows n d o,dk4 e g c i]) (λrs=>en4 rs λM=>(ifB M (Cl prog 56 sP ([cx3 F G H,cx3 u v w]) (λT=>en4 T λN=>(ifB N (Cl prog 35 sP ([st3 J K L,st3 y z A]) (λU=>en4 U λb3=>(Q [B b3]))) (Q [B false])))) (Q [B false])))))):Ct prog 16 {} [jr16 rows n d o D E segs F G H J K L p q r,jr16 e g c i s t a u v w y z A j k l] Q:=
 fN SgT SvT func16 h
theorem Zzp{rows:LL}{c a:Int}{d:Bool}{o p n:Int}{E:LL}{Q:QQ}(h:Cl prog 10 sP [] (λrs=>en4 rs λb=>(ifB (bnot b) (Q [B false]) (Cl prog 11 sP ([dk4 rows c a d]) (λJ=>en4 J λb1=>(ifB (bpick (bnot b1) true (igt (rlen E) 9)) (Q [B true]) (Cl prog 12 sP ([dk4 rows c a d,SL 1 ([[I 65536]]),I ((-1:Int))]) (λK=>en6 K λl x L F x2=>(ifB (ine x2 0) (Q [B true]) (Cl prog 13 sP ([dk4 l x L F,SV.agg [I o,I p]]) (λM=>en0 M λj k m b3 s t u v w y z A e g i C N=>(ifB (ine N 0) (Cl prog 14 sP ([dk4 j k m b3,dk4 l x L F]) (λq=>en4 q λb5=>(ifB b5 (Cl prog 15 sP ([jr16 j k m b3 s t u v w y z A e g i C]) (λr=>en1 r λG=>(Q [B (ieq (rlen G) 0)]))) (Q [B false])))) (Cl prog 13 sP ([dk4 j k m b3,SV.agg [I o,I p]]) (λq=>en0 q λG O P b5 R T l6 U V l7 l8 W X Y Z b6 a0=>(ifB (ine a0 0) (Q [B false]) (Cl prog 16 sP ([jr16 j k m b3 s t u v w y z A e g i C,jr16 G O P b5 R T l6 U V l7 l8 W X Y Z b6]) (λr=>en4 r λb7=>(ifB (bnot b7) (Q [B false]) (Cl prog 17 sP ([jr16 j k m b3 s t u v w y z A e g i C]) (λa1=>en4 a1 λb8=>(ifB (bnot b8) (Q [B false]) ((((12:Int)=0)→False)∧Cl prog 13 sP ([dk4 l x (wrem (wcv .i64 n) 12) F,SV.agg [I o,I p]]) (λa2=>en0 a2 λl9 a3 a4 b9 aw ax ay az b0 ba bb bc bd be bf bg D=>(ifB (bpick (ine D 0) (ine D 16) false) (Q [B false]) (Cl prog 12 sP ([dk4 l9 a3 a4 b9,SL 1 E,I ((-1:Int))]) (λa5=>en6 a5 λa6 a7 a8 a9 aa=>(Cl prog 13 sP ([dk4 a6 a7 a8 a9,SV.agg [I o,I p]]) (λab=>en0 ab λac ad ae af ag ah ai aj ak al am an ao ap aq ar au=>(ifB (bpick (ieq aa 0) (ieq au 0) false) (Cl prog 16 sP ([jr16 ac ad ae af ag ah ai aj ak al am an ao ap aq ar,jr16 j k m b3 s t u v w y z A e g i C]) (λH=>en4 H λav=>(Q [B av]))) (Q [B false])))))))))))))))))))))))))))))):Ct prog 3 {} [dk4 rows c a d,.agg [I o,I p],U8 n,SL 1 E] Q:=
 fN SgT SvT func3 h
end Jou
namespace Jou
open Go Go.Px Go.Proofs Cod Seg Sgr Snp Sx Row Tryz
theorem ok_of{j:JoD}(h:RightJ j)(hst:j.dk.st≤9223372036854775807):j.ok:=by
 have F:=h.fct;have L:=lim_P F.st;have b:j.cx.m.length≤32:=(Zdc.1 (Zbd.1 F.cx).2).1;have d:=h.dk.2.1;have e:=h.dk.1.2.2.1;have f:=F.fs;have g:=F.len;exact⟨⟨by omega,by omega,hst⟩,by omega,by omega,by have:=L.1;omega,λc a=>by have:=L.2 c a;omega⟩
theorem Zu5{j:JoD}(a:RightJ j)(e:Cod.EvD):appP j e=appQ j e:=by unfold appP;rw[if_neg (by rw[Zfq.2 a];simp)]
theorem synJ_q{j:JoD}(a:RightJ j):synJ j=synQ j:=by unfold synJ;rw[if_neg (by rw[Zfq.2 a];simp)]
abbrev wD:DiD:=⟨[],900,-1,false⟩
abbrev wA0:JoD:=⟨wD,64,99,[],⟨0,0,[]⟩,st0,0,0,false⟩
abbrev wE(a k y:Int):Cod.EvD:=⟨0,a,k,⟨#[98]⟩,1,y,0⟩
def wA1:=(appQ wA0 (wE 3 1 0)).1
def wA2:=(synQ wA1).1
def wA3:=(appQ wA2 (wE 4 3 9)).1
def wA4:=(appQ wA3 (wE 4 3 900000)).1
def wA5:=(appQ wA4 (wE 4 3 9)).1
theorem w_ok:((appQ wA0 (wE 3 1 0)).2=0∧(synQ wA1).2=0∧(appQ wA2 (wE 4 3 9)).2=0)∧((appQ wA3 (wE 4 3 900000)).2=0∧(appQ wA4 (wE 4 3 9)).2=0)∧((wA1.dk.st= -1∧wA2.dk.st= -1∧wA3.dk.st= -1∧wA4.dk.st= -1∧wA5.dk.st= -1)∧wA5.st.q=4∧1≤wA5.sure∧1<wA5.sg.length∧(wA5.sg.head?.map (·.sl))=some true)∧(evN wA4 (wE 4 3 9)).k=3∧((evN wA0 (wE 3 1 0)).s=1∧(evN wA2 (wE 4 3 9)).s=2∧(evN wA3 (wE 4 3 900000)).s=3∧(evN wA4 (wE 4 3 9)).s=4):=by decide+kernel
theorem dk_nil:DkR [] []:=⟨by simp[Go.Px.srt],rfl,by simp[inRow],by simp⟩
theorem new_nil:newF []=none:=Ztl (by simp[Go.Px.srt]) (λf a=>by obtain⟨_,h,_⟩:=a;cases h)
theorem w_open:openP wD 64 99=(wA0,0)∧evsJ wA0=[]:=by
 have b:rowK wD.fs=([],[]):=Zc5 dk_nil;have c:keptF wD.fs=0:=(by unfold keptF;rw[show wD.fs=[]from rfl,new_nil]);have f:baseF wD.fs=st0:=(by unfold baseF;rw[show wD.fs=[]from rfl,new_nil]);have g:GoodR (rowK wD.fs).1 (keptF wD.fs) (baseF wD.fs):=(by rw[b,c,f];exact⟨λp a=>(by cases a),λp a=>(by cases a),by decide,λp a=>(by cases a)⟩);have h:menD wD=(wD,0):=(by unfold menD;rw[b];rfl);have i:stR (rowK wD.fs).1 (keptF wD.fs) (baseF wD.fs)=st0:=(by rw[b,c,f];rfl);have e:=Zy3 (d:=wD) (cb:=64) (cg:=99) (by decide) (by unfold mayC;omega) rfl g h;have j:anewJ wD 64 99 (stR (rowK wD.fs).1 (keptF wD.fs) (baseF wD.fs)).q false=wA0:=(by unfold anewJ;rw[i,c,b];rfl);rw[j]at e;refine⟨e,?_⟩;rw[evs_eq (Znz e).right];rfl
theorem jawake_fn:Ct prog 10 {} [] (λr=>r=[B true]):=by
 obtain⟨⟨j,m,n⟩,⟨o,q⟩,⟨⟨u,v,w,s4,x⟩,y,J,s,a⟩,z,e1,e2,K,L⟩:=w_ok;have h:=(Znz w_open.1).right;have b:=Zkc h (k:=wA1) (YA rfl j);obtain⟨f,_,A,_⟩:=Zy6 b.right (k:=wA2) (YA rfl m);have c:=Zkc f (k:=wA3) (YA rfl n);have d:=Zkc c.right (k:=wA4) (YA rfl o);have i:=Zkc d.right (k:=wA5) (YA rfl q);have C:evsJ wA5=[evN wA0 (wE 3 1 0),evN wA2 (wE 4 3 9),evN wA3 (wE 4 3 900000),evN wA4 (wE 4 3 9)]:=(by rw[i.ev,d.ev,c.ev,A,b.ev,w_open.2];rfl);have D:appP wA0 (wE 3 1 0)=(wA1,0):=(by rw[Zu5 h];exact YA rfl j);have E:synJ wA1=(wA2,0):=(by rw[synJ_q b.right];exact YA rfl m);have F:appP wA2 (wE 4 3 9)=(wA3,0):=(by rw[Zu5 f];exact YA rfl n);have G:appP wA3 (wE 4 3 900000)=(wA4,0):=(by rw[Zu5 c.right];exact YA rfl o);have H:appP wA4 (wE 4 3 9)=(wA5,0):=(by rw[Zu5 d.right];exact YA rfl q);have e:=ok_of i.right (by rw[x];decide);refine Zzo (Cl.of (Zhn wD ⟨by decide,by decide,by decide⟩ 64 99) ?_);rw[w_open.1];refine⟨_,_,_,_,_,_,_,_,_,_,_,_,_,_,_,_,_,rfl,Cl.of (Zoz wA0 (ok_of h (by decide)) (wE 3 1 0) (by decide)) ?_⟩;rw[D];refine⟨_,_,_,_,_,_,_,_,_,_,_,_,_,_,_,_,_,rfl,Cl.of (jsyn_fn wA1 (ok_of b.right (by rw[u];decide))) ?_⟩;rw[E];refine⟨_,_,_,_,_,_,_,_,_,_,_,_,_,_,_,_,_,rfl,Cl.of (Zoz wA2 (ok_of f (by rw[v];decide)) (wE 4 3 9) (by decide)) ?_⟩;rw[F];refine⟨_,_,_,_,_,_,_,_,_,_,_,_,_,_,_,_,_,rfl,Cl.of (Zoz wA3 (ok_of c.right (by rw[w];decide)) (wE 4 3 900000) (by decide)) ?_⟩;rw[G];refine⟨_,_,_,_,_,_,_,_,_,_,_,_,_,_,_,_,_,rfl,Cl.of (Zoz wA4 (ok_of d.right (by rw[s4];decide)) (wE 4 3 9) (by decide)) ?_⟩;rw[H];refine⟨_,_,_,_,_,_,_,_,_,_,_,_,_,_,_,_,_,rfl,Cl.of (Zmo wA5 e) ⟨_,rfl,?_⟩⟩;rw[C];have t:∀l:List SgD,rlen (sgR l)=l.length:=λl=>by simp
 refine Zaa (λ_=>⟨⟨by omega,by simp⟩,_,_,_,_,_,_,_,rfl,?_⟩) (λg=>by simp at g)
 obtain⟨p,l,hsg⟩:∃p l,wA5.sg=p::l:=by
  cases hw:wA5.sg with
  |nil=>rw[hw]at s;simp at s
  |cons p l=>exact⟨p,l,rfl⟩
 have a:p.sl=true:=(by rw[hsg]at a;simpa using a);refine Zaa (λ_=>⟨⟨by omega,by dsimp only;rw[t];omega⟩,p.num,p.fi,p.la,p.fr,p.ti,p.sz,p.sl,by dsimp only;rw[hsg];rfl,?_⟩) (λg=>?_)
 ·refine Zaa (λ_=>Cl.of (Zho wA5 e) ⟨_,rfl,?_⟩) (λg=>?_)
  ·rw[Ze5.2 i.right]
  ·exfalso
   dsimp only at g
   rw[y]at g;simp[a]at g;omega
 ·exfalso
  dsimp only at g
  rw[t]at g;simp[z]at g;omega
end Jou
namespace Jou
open Go Go.Px Go.Proofs Cod Seg Sgr Snp Sx Row Dsk Tryz
def DiD.Sz(d:DiD):Prop:=d.fs.length≤140737488351232∧(∀f∈d.fs,f.su.length≤140737488351232∧f.lo.length≤140737488351232)∧d.st≤9223372036854775807
theorem Sz.ok{d:DiD}(h:DiD.Sz d)(i:d.fs.length≤70):d.ok:=by
 obtain⟨_,c,e⟩:=h
 have:∀l:List FiD,(∀f∈l,f.su.length≤140737488351232∧f.lo.length≤140737488351232)→usedL l≤l.length*281474976702464:=by
  intro l
  induction l with
  |nil=>intro _;simp[usedL]
  |cons a l g=>intro h;have:=g (λf b=>h f (by simp[b]));have:=h a (by simp);rw[Zcd];simp only[FiD.len,List.length_cons];omega
 have:=this d.fs c;exact⟨by omega,by omega,e⟩
deriving instance DecidableEq for JoD
theorem Zmw(j k:JoD)(h:j.ok):Ct prog 16 {} [j.sv,k.sv] (λr=>r=[B (decide (j=k))]):=by
 have no:¬j=k→[B false]=[B (decide (j=k))]:=λh=>by simp[h]
 have t:=h.sg;refine Zw1 (Zaa (λg=>no (λq=>?_)) (λg=>?_))
 ·subst q;simp at g
 have g:(((j.sg.length=k.sg.length∧j.cb=k.cb∧j.cg=k.cg)∧j.sure=k.sure)∧j.kept=k.kept)∧j.shut=k.shut:=(by simp at g;obtain⟨⟨⟨⟨f,i,l⟩,n⟩,o⟩,p⟩:=g;exact⟨⟨⟨⟨by omega,i,l⟩,n⟩,o⟩,p⟩);obtain⟨⟨⟨⟨f,i,l⟩,n⟩,o⟩,p⟩:=g;refine⟨λ_ x=>0≤x∧x≤j.sg.length∧j.sg.take x.toNat=k.sg.take x.toNat,λ_ x=>(j.sg.length-x).toNat,⟨by omega,by omega,rfl⟩,?_⟩;rintro _ x ⟨x0,hx,he⟩;refine Zaa (λb=>?_) (λb=>?_)
 ·have b:x<j.sg.length:=(by simpa using b);have e:x<k.sg.length:=(by omega);refine⟨inM _ x0 b,_,_,_,_,_,_,_,Za9 _ j.sg x x0 b,inM _ x0 e,_,_,_,_,_,_,_,Za9 _ k.sg x x0 e,?_⟩
  dsimp only
  rw[Zty,Zac (by omega) (by omega)];refine Zaa (λc=>no (λq=>?_)) (λc=>⟨rfl,⟨by omega,by omega,?_⟩,mlt (by first|omega|(dsimp only;omega))⟩)
  ·subst q;simp at c
  ·rw[show(x+1).toNat=x.toNat+1 by omega];exact Zrh (by omega) (by omega) he (by simpa using c)
 ·have b:x=j.sg.length:=(by simp at b;omega);have u:j.sg=k.sg:=(by rw[b,Int.toNat_natCast,Yb,f,Yb]at he;exact he);refine Cl.of (qsame_fn j.dk k.dk (by have:=h.dk.2.1;omega)) ⟨_,rfl,Zaa (λc=>?_) (λc=>no (λq=>by subst q;simp at c))⟩;have c:j.dk=k.dk:=(by simpa using c);refine Cl.of (csame_fn j.cx.s j.cx.a j.cx.m k.cx.s k.cx.a k.cx.m h.m) ⟨_,rfl,Zaa (λd=>?_) (λd=>no (λq=>by subst q;simp at d))⟩
  have d:j.cx=k.cx:=by
   have d:j.cx.s=k.cx.s∧j.cx.a=k.cx.a∧j.cx.m=k.cx.m:=by simpa using d
   cases hj:j.cx;cases hk:k.cx;rw[hj,hk]at d;simp at d;simp[d]
  refine Cl.of (srsame_fn j.st k.st (by have:=h.cs;omega) h.cl) ⟨_,rfl,?_⟩;congr 2;refine decide_eq_decide.2 ⟨λq=>?_,λq=>by rw[q]⟩
  cases j;cases k
  simp_all
theorem runP_ok:∀(l:List Stp) {d:DiD},d.ok→(runP d l).1.ok
 | [],d,h=>h
 |s::l,d,h=>by
  have a:=run_ok (s:=s) h;unfold runP
  split
  ·exact a
  ·exact runP_ok l a
theorem openP_k{d:DiD}(h:d.ok)(a b:Int):(openP d a b).1.dk.ok:=by
 have c:(menD d).1.ok:=runP_ok _ h;unfold openP
 repeat' split
 all_goals first|exact h|exact c
theorem law3_fn(d:DiD)(p:DiD.Sz d)(a b n:Int)(M:0≤n∧n≤255)(ks:List Int)(N:ks.length≤140737488351232):
  Ct prog 3 {} [d.sv,.agg [I a,I b],U8 n,SL 1 (ks.map λk=>[I k])] (λr=>r=[B true]):=by
 refine Zzp (Cl.of jawake_fn ⟨_,rfl,Zaa (λh=>by simp at h) (λ_=>?_)⟩);refine Cl.of (qshort_fn d (Sz.ok p) (by have:=p.1;omega)) ⟨_,rfl,Zaa (λ_=>rfl) (λh=>?_)⟩;have h:(d.fs.length≤70∧usedL d.fs≤70000∧∀f∈d.fs,f.nm.size≤100)∧ks.length≤9:=(by simp at h;exact⟨h.1,by omega⟩);refine Cl.of (Zua d (Sz.ok p h.1.1) [65536] (-1) (by simp)) ⟨_,_,_,_,_,rfl,Zaa (λ_=>rfl) (λm=>?_)⟩;have m:(Zcj d [65536] (-1)).2=0:=by simpa using m
 have w:d.P:=by
  unfold Zcj at m
  split at m
  ·cases m
  ·rename_i g;by_cases q:d.P
   ·exact q
   ·exact absurd (.inl q) g
 have G:Zcj d [65536] (-1)=(⟨wakeL [65536] d.fs,d.rm,-1,false⟩,0):=(by unfold Zcj;rw[if_neg (by simp[w])]);have l:=Zvh (ks:=[65536]) (n:=-1) w;rw[G]at l⊢
 obtain⟨e,he⟩:∃e:DiD,e=⟨wakeL [65536] d.fs,d.rm,-1,false⟩:=⟨_,rfl⟩
 have H:Lst e.fs:=(by rw[he];exact Zy4 _ _);have s:e.st= -1:=(by rw[he]);have J:e.dn=false:=(by rw[he]);rw[←he]at l⊢;have o:=l.ok (by rw[s];decide);have K:wrem (wcv IntKind.i64 n) 12=n%12:=(by rw[show wcv IntKind.i64 n=n from Zbr (by omega) (by omega)];exact Int.tmod_eq_emod_of_nonneg (by omega));refine Cl.of (Zhn e o a b) ?_;refine⟨_,_,_,_,_,_,_,_,_,_,_,_,_,_,_,_,_,rfl,Zaa (λc=>?_) (λc=>?_)⟩
 ·have c:(openP e a b).2≠0:=(by simpa using c);rw[open_no l J s c];refine Cl.of (qsame_fn e e (Nat.le_trans l.1.1 (by omega))) ⟨_,rfl,Zaa (λ_=>?_) (λg=>by simp at g)⟩;refine Cl.of (Zmo (jo0 e) ⟨o,by simp[jo0],by simp[jo0],by simp[jo0,st0],by simp[jo0,st0]⟩) ⟨_,rfl,?_⟩;rw[jo0_no];rfl
 have c:(openP e a b).2=0:=by simpa using c
 obtain⟨j,hj⟩:∃j,openP e a b=(j,0):=⟨_,YA rfl c⟩
 obtain⟨C,Q,D,E⟩:=Zy5 s H hj;obtain⟨F,u,b3⟩:=E (n%12) (by omega);have O:=Znz hj;have i:j.ok:=ok_of O.right (by rw[D];decide);rw[hj];refine Cl.of (Zhn j.dk i.dk a b) ?_;rw[C];refine⟨_,_,_,_,_,_,_,_,_,_,_,_,_,_,_,_,_,rfl,Zaa (λh=>by simp at h) (λ_=>?_)⟩;refine Cl.of (Zmw j j i) ⟨_,rfl,Zaa (λh=>by simp at h) (λ_=>?_)⟩;refine Cl.of (Zho j i) ⟨_,rfl,Zaa (λh=>by rw[Ze5.2 O.right]at h;simp at h) (λ_=>⟨by omega,?_⟩)⟩;rw[K];have L:(bnd e (n%12)).P:=bnd_P l (by omega);have y:(bnd e (n%12)).ok:=L.ok (by show n%12≤_;omega);have t:=openP_k y a b;refine Cl.of (Zhn (bnd e (n%12)) y a b) ?_;generalize openP (bnd e (n%12)) a b=q at*;obtain⟨⟨x,R,T,c3,U,V,W,X,c8⟩,er⟩:=q;refine⟨_,_,_,_,_,_,_,_,_,_,_,_,_,_,_,_,_,rfl,Zaa (λh=>?_) (λ_=>?_)⟩
 ·simp at h F;omega
 obtain⟨w1,w2⟩:=b3 ks
 dsimp only at u w1 w2 t
 refine Cl.of (Zua x t ks (-1) (by omega)) ⟨_,_,_,_,_,rfl,?_⟩;have z:=Zvh (ks:=ks) (n:=-1) u
 have A:(Zcj x ks (-1)).1.st≤9223372036854775807:=by
  unfold Zcj
  split
  ·exact t.2.2
  ·show(-1:Int)≤_;decide
 generalize Zcj x ks (-1)=v at*;obtain⟨v,ev⟩:=v
 dsimp only at w1 w2 z A
 refine Cl.of (Zhn v (z.ok A) a b) ?_;rw[w2];refine⟨_,_,_,_,_,_,_,_,_,_,_,_,_,_,_,_,_,rfl,Zaa (λh=>?_) (λh=>by simp[w1]at h)⟩;refine Cl.of (Zmw j j i) ⟨_,rfl,?_⟩;simp
