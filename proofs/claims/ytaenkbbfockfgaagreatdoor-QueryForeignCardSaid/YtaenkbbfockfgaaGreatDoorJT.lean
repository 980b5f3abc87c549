import Derived.Test.YtaenkbbfockfgaaGreatDoorK14
import Derived.ProofKit
set_option linter.all false
namespace Go.Proofs.YtaenkbbfockfgaaGreatDoor.Jou
open Go Go.Px Go.Proofs Cod Dsk Go.ChangeShapes Go.WideShapes Go.ChangeAt Go.RowKit
set_option maxRecDepth 100000
theorem own:ownKnob Tryz.prog.godebug=none:=by kernel_rfl
theorem mlaid:(laidOutB Tryz.prog&&mapsRowed Tryz.prog)=true:=by kernel_rfl
theorem laidOut:laidOutB Tryz.prog=true:=(Bool.and_eq_true_iff.1 mlaid).1
theorem mrow:mapsRowed Tryz.prog=true:=(Bool.and_eq_true_iff.1 mlaid).2
theorem wT3:Tryz.prog.underlying 3=some (.int .i64):=by kernel_rfl
theorem wT4:Tryz.prog.underlying 4=some .bool:=by kernel_rfl
theorem wT5:Tryz.prog.underlying 5=some (.int .u8):=by kernel_rfl
theorem wT9:Tryz.prog.underlying 9=some .string:=by kernel_rfl
theorem wT22:Tryz.prog.underlying 22=some (.slice 126):=by kernel_rfl
theorem wT25:Tryz.prog.underlying 124=some (.slice 5):=by kernel_rfl
theorem c3:Tryz.prog.cellsOf 3=1:=by kernel_rfl
theorem c5W:Tryz.prog.cellsOf 5=1:=by kernel_rfl
theorem c42:Tryz.prog.cellsOf 126=3:=by kernel_rfl
theorem b3:bndL Tryz.prog 3=140737488351232:=by kernel_rfl
theorem b5:bndL Tryz.prog 5=140737488351232:=by kernel_rfl
theorem b42:bndL Tryz.prog 126=140737488351232:=by kernel_rfl
theorem e24W(a:List SV):TypW Tryz.prog 9 24 a=Za6 (λf s=>TypW Tryz.prog 8 f s) [22,3,3,4] a:=by kernel_rfl
theorem e42W(a:List SV):TypW Tryz.prog 7 126 a=Za6 (λf s=>TypW Tryz.prog 6 f s) [9,124,124] a:=by kernel_rfl
theorem Zdp{c:Type}{f:c→List SV}{Q:c→Prop}:∀(rows:List (List SV)),(∀r∈rows,∃a,r=f a∧Q a)→∃l:List c,rows=l.map f∧∀a∈l,Q a
 | [],_=>⟨[],rfl,by simp⟩
 |r::rows,h=>by
  obtain⟨a,rfl,g⟩:=h r (by simp);obtain⟨l,rfl,i⟩:=Zdp rows (λr e=>h r (by simp[e]));refine⟨a::l,rfl,λb d=>?_⟩
  rcases List.mem_cons.1 d with rfl|d
  ·exact g
  ·exact i b d
theorem typ_u8sW{n:Nat}{a:List SV}(h:TypW Tryz.prog (n+1) 5 a):∃x:Int,a=[U8 x]∧0≤x∧x≤255:=by
 simp only[TypW,wT5]at h;obtain⟨x,h,b⟩:=h;exact⟨x,h,wf_u8 b⟩
theorem Zqr{n:Nat}{a:List SV}(h:TypW Tryz.prog (n+1) 3 a):∃x:Int,a=[I x]∧-9223372036854775808≤x∧x≤9223372036854775807:=by
 simp only[TypW,wT3]at h;obtain⟨x,h,b⟩:=h;exact⟨x,h,wf_i64 b⟩
theorem Zvb{n:Nat}{a:List SV}(h:TypW Tryz.prog (n+2) 124 a):∃l:List UInt8,a=[SL 1 (uR l)]∧l.length≤140737488351232:=by
 unfold TypW at h;rw[wT25]at h;obtain⟨rows,rfl,c,e⟩:=h
 obtain⟨l,rfl,_⟩:=Zdp (f:=λb:UInt8=>[U8 (b.toNat:Int)]) (Q:=λ_=>True) rows (λr d=>by
  obtain⟨x,rfl,g,i⟩:=typ_u8sW (e r d);refine⟨UInt8.ofNat x.toNat,?_,trivial⟩;have:(UInt8.ofNat x.toNat).toNat=x.toNat:=(by rw[UInt8.toNat_ofNat'];omega);rw[this];have:((x.toNat:Nat):Int)=x:=by omega
  rw[this])
 exact⟨l,by rw[c5W],by rw[b5]at c;simpa using c⟩
theorem typ_filW{c:List SV}(h:TypW Tryz.prog 7 126 c):∃f:FiD,c=f.row∧f.su.length≤140737488351232∧f.lo.length≤140737488351232:=by
 rw[e42W]at h;simp only[Za6]at h;obtain⟨_,_,rfl,d,_,_,rfl,e,_,_,rfl,g,rfl⟩:=h;simp only[TypW,wT9]at d;obtain⟨s,rfl,_⟩:=d;obtain⟨a,rfl,i⟩:=Zvb e;obtain⟨b,rfl,j⟩:=Zvb g;exact⟨⟨s,a,b⟩,rfl,i,j⟩
theorem typ_dskW{s:SV}(j:TypVW Tryz.prog 9 24 s):∃d:DiD,s=d.sv∧DiD.Sz d:=by
 obtain⟨x,c,g,_⟩:=j;have g:=g (by kernel_rfl);rw[e24W]at c;simp only[Za6]at c;obtain⟨l,_,rfl,a,_,_,rfl,m,_,_,rfl,n,_,_,rfl,h,rfl⟩:=c;have a:∃rows,l=[SV.slice (Tryz.prog.cellsOf 126) rows 0]∧rows.length≤bndL Tryz.prog 126∧∀r∈rows,TypW Tryz.prog 7 126 r:=(by unfold TypW at a;rw[wT22]at a;exact a);obtain⟨rows,rfl,i,o⟩:=a
 obtain⟨p,rfl,q⟩:=Zdp (f:=FiD.row) (Q:=λf=>f.su.length≤140737488351232∧f.lo.length≤140737488351232) rows (λr k=>by
  obtain⟨f,e,t,u⟩:=typ_filW (o r k)
  exact⟨f,e,t,u⟩)
 obtain⟨v,rfl,_⟩:=Zqr m;obtain⟨w,rfl,_,hst⟩:=Zqr n;simp only[TypW,wT4]at h;obtain⟨b,rfl⟩:=h;refine⟨⟨p,v,w,b⟩,by rw[g,c42];rfl,by rw[b42]at i;simpa using i,q,hst⟩
theorem e26(a:List SV):TypW Tryz.prog 9 26 a=Za6 (λf s=>TypW Tryz.prog 8 f s) [3,2] a:=by kernel_rfl
theorem wT2:Tryz.prog.underlying 2=some (.int .i64):=by kernel_rfl
theorem uB:Tryz.prog.underlying 4=some .bool:=by kernel_rfl
