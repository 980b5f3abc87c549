import Derived.Test.YtaenkbbfockfgaaGreatDoorKpT
import Derived.Test.YtaenkbbfockfgaaGreatDoorK15
set_option linter.all false
namespace Go.Proofs.YtaenkbbfockfgaaGreatDoor.Qry
open Go Go.Px Go.Proofs Go.ChangeShapes Go.WideShapes Go.ChangeAt Go.RowKit Jou
open Trm hiding waddN stepL seq_d sne_d
set_option maxRecDepth 100000
theorem u36_:Tryz.prog.underlying 36=some (.slice 38):=by kernel_rfl
theorem c38:Tryz.prog.cellsOf 38=5:=by kernel_rfl
theorem b38:bndL Tryz.prog 38=reachBytes:=by kernel_rfl
abbrev S0:List TypeId:=[35,38,24,26,27,30,33,2,3,4,5,9,22,28,31,36,86,124,126,128,130,131,133,135,136,138,261]
theorem hS0:S0.all (layT Tryz.prog S0)=true:=by kernel_rfl
theorem reach:reachBytes≤140737488355327:=by decide
theorem e38(n:Nat)(a:List SV):TypW Tryz.prog (n+1) 38 a=Za6 (λf s=>TypW Tryz.prog n f s) [3,2,2,9,36] a:=by kernel_rfl
theorem step38(j:List SV)(h:TypI Tryz.prog 38 j):∃d a b c rows,j=[I d,I a,I b,S c,SL 5 rows]∧c.size≤140737488355327∧rows.length≤140737488355327∧∀r∈rows,TypI Tryz.prog 38 r:=by
 have i:∀n,∃d a b c rows,j=[I d,I a,I b,S c,SL 5 rows]∧c.size≤140737488355327∧rows.length≤140737488355327∧∀r∈rows,TypW Tryz.prog n 38 r:=λn=>by have f:=h (n+2);rw[e38]at f;simp only[Za6,TypW,wT3,wT2,wT9,u36_]at f;obtain⟨_,_,rfl,⟨d,rfl,_⟩,_,_,rfl,⟨a,rfl,_⟩,_,_,rfl,⟨b,rfl,_⟩,_,_,rfl,⟨c,rfl,l⟩,_,_,rfl,⟨rows,rfl,m,g⟩,rfl⟩:=f;rw[c38];rw[b38]at m;exact⟨d,a,b,c,rows,rfl,Nat.le_trans l reach,Nat.le_trans m reach,g⟩
 obtain⟨d,a,b,c,rows,e,p,f,_⟩:=i 0;refine⟨d,a,b,c,rows,e,p,f,λr g n=>?_⟩;obtain⟨s,u,v,t,o,k,_,_,q⟩:=i n;rw[e]at k;simp only[List.cons.injEq,SV.slice.injEq,true_and,and_true]at k;rw[k.2.2.2.2]at g;exact q r g
theorem typ_flt{s:SV}(h:TypVI Tryz.prog 38 s):∃f:FlD,s=f.sv∧smF f:=by
 obtain⟨a,b,c,_⟩:=h;obtain⟨f,rfl,d⟩:=Zun (TypI Tryz.prog 38) step38 _ a (Nat.le_refl _) b;exact⟨f,c (by kernel_rfl),d⟩
theorem typ_str{s:SV}(h:TypVI Tryz.prog 9 s):∃t:ByteArray,s=S t∧t.size≤140737488355327:=by
 obtain⟨c,b,_,a⟩:=h;have a:=a (by kernel_rfl);subst a;have:=b 1;simp only[TypW,wT9]at this;obtain⟨t,e,h⟩:=this;exact⟨t,by simpa using e,Nat.le_trans h reach⟩
theorem typ_jou{s:SV}(h:TypVI Tryz.prog 35 s):∃j:JoD,s=j.sv∧j.Sz:=by
 obtain⟨a,b,c,d⟩:=h;exact typ_jouW ⟨a,b 10,c,d⟩
