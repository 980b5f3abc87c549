import Derived.Test.YtaenkbbfockfgaaGreatDoorK05
import Derived.Lib.LaidU8
import Derived.Shelf.Strconv.Itoa4
import Derived.MakeChecks
import Derived.Stop.LaidErr
import Derived.Test.YtaenkbbfockfgaaGreatDoorRows
set_option linter.all false
namespace Go.Proofs.YtaenkbbfockfgaaGreatDoor
open Go Go.Px Go.Proofs
set_option maxRecDepth 100000
theorem Zvc: "*" ++ "errors.errorString" = "*errors.errorString" :=by decide
theorem row_err(u:TypeId)(h:Tryz.prog.typeName? 3 u=some "*errors.errorString"):u=450:=
 Go.typeName_ptr_named (nm:= "errors.errorString") (by rw[Zvc];kernel_rfl) (by kernel_rfl) (by decide) u (by rw[Zvc];exact h)
theorem Zsv{W:World}{n:String}{k:Nat}{v:Value}(b:Tryz.prog.globalNamed n=some k)(h:W.var? Tryz.prog n=some #[v]):∃ty a,W.heap[k]?=some (.cells #[v] ty a):=by
 unfold World.var? at h;rw[b]at h;simp only[Option.bind_some]at h
 split at h
 ·rename_i c ty a e
  cases h
  exact⟨ty,a,e⟩
 ·cases h
theorem gl_sent{l:List (String×DataW Unit)}{W:World}{n:String}{k:Nat}{b:List UInt8}(h:laidMet Tryz.prog ((n,.iface "*errors.errorString" (.ptr (.agg [.lit (.string b)])))::l) W)
  (d:Tryz.prog.globalNamed n=some k) (f:(Tryz.prog.globals[k]?).map (·.type)=some 245):∃p ty c,W.heap[k]?=some (.cells #[.iface 450 p] ty c):=by
 obtain⟨a,s,g,_⟩:=laid_sentinel (tp:=450) (te:=452) (ts:=9) h d f Tryz.underlying245 row_err Tryz.underlying450 Tryz.underlying452 rfl rfl Tryz.underlying9 (by kernel_rfl) (by kernel_rfl);obtain⟨ty,c,e⟩:=Zsv d g;exact⟨_,ty,c,e⟩
theorem gl_laid{W:World}(h:laidMetH Tryz.prog [("math/bits.deBruijn32tab",Rows.laid_math_bits_deBruijn32tab),("math/bits.deBruijn64tab",Rows.laid_math_bits_deBruijn64tab),("internal/strconv.uint64pow10",Rows.laid_internal_strconv_uint64pow10),("strconv.ErrRange",Rows.laid_strconv_ErrRange),("strconv.ErrSyntax",Rows.laid_strconv_ErrSyntax)] W):Gl (hof W) W:=by
 rw[MakeChecks.laidMetH_plain _ _ _ (by kernel_rfl)]at h
 obtain⟨g,t,s,G,p,u,H,j,hd⟩:=Lib.laidMet.reads h (n:= "internal/strconv.uint64pow10") (d:=Rows.laid_internal_strconv_uint64pow10) (by simp)
 obtain rfl:=Option.some.inj ((show Tryz.prog.globalNamed "internal/strconv.uint64pow10" =some 1 by kernel_rfl).symm.trans u)
 obtain rfl:=Option.some.inj ((show(Tryz.prog.globals[1]?).map (·.type)=some 413 by kernel_rfl).symm.trans H);have E:=Lib.cells_of_tab (n:=20) (e:=147) (k:=.u64) (zs:=Lib.pow10Tab) (by kernel_rfl) (by kernel_rfl) (by kernel_rfl) (by kernel_rfl) hd
 have o:∃ty a,W.heap[1]?=some (.cells s ty a):=by
  unfold World.var? at j;rw[u]at j;simp only[Option.bind_some]at j
  split at j
  ·rename_i M ty a e
   cases j
   exact⟨ty,a,e⟩
  ·cases j
 obtain⟨ty,a,o⟩:=o;obtain⟨J,w,x,y⟩:=gl_sent (k:=3) h.tail.tail.tail (by kernel_rfl) (by kernel_rfl);obtain⟨K,A,C,D⟩:=gl_sent (k:=2) h.tail.tail.tail.tail (by kernel_rfl) (by kernel_rfl);have r:pow10=Lib.pow10Tab.map λz=>SV.val (.int .u64 z):=(by kernel_rfl);have F:pow10.length=20:=by rw[r];simp;decide+kernel
 have m:∀(k:Nat) (p:Value) ty a,W.heap[k]?=some (.cells #[.iface 450 p] ty a)→∀i c,([SV.ifc 450 .unk]:List SV)[i]?=some c→∃v,hof W k i=some v∧PRep (hof W) v c:=λk p ty a e i c f=>by
  match i,f with
  |0,f=>simp at f;subst f;exact⟨.iface 450 p,by simp[hof,World.cell?,e],.ifc _ _ _ (.unk _)⟩
  |i+1,f=>simp at f
 refine⟨λq l i c b=>?_,λq l=>?_⟩
 ·simp only[Zbf,List.mem_cons,List.not_mem_nil,or_false]at l
  rcases l with rfl|rfl|rfl
  ·rw[r,List.getElem?_map]at b;obtain⟨z,L,rfl⟩:=Option.map_eq_some_iff.1 b;refine⟨.int .u64 z,?_,.val _⟩;have:s.toList[i]?=some (.int .u64 z):=by rw[E,List.getElem?_map,L];rfl
   simp only[hof,World.cell?,o]
   simpa using this
  ·exact m 2 K A C D i c b
  ·exact m 3 J w x y i c b
 ·simp only[Zbf,List.mem_cons,List.not_mem_nil,or_false]at l
  rcases l with rfl|rfl|rfl
  ·refine⟨by rw[F];omega,s,ty,a,o,?_⟩;have:=congrArg List.length E;simp at this;rw[F,this];decide+kernel
  ·exact⟨by simp,_,_,_,D,rfl⟩
  ·exact⟨by simp,_,_,_,y,rfl⟩
end Go.Proofs.YtaenkbbfockfgaaGreatDoor
