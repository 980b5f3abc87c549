import Derived.Test.YtgehiiginclniaaGreatDoorJTd
import Derived.Test.YtgehiiginclniaaGreatDoorK15
set_option linter.all false
namespace Go.Proofs.YtgehiiginclniaaGreatDoor.Jou
open Go Go.Px Go.Proofs Cod Dsk Go.ChangeShapes Go.WideShapes Go.ChangeAt Go.RowKit
set_option maxRecDepth 100000
theorem wT82:Tryz.prog.underlying 82=some (.slice 66):=by kernel_rfl
theorem c66:Tryz.prog.cellsOf 66=1:=by kernel_rfl
theorem typ_livesW{s:SV}(g:TypVW Tryz.prog 9 82 s):∃l:List (List DeD),s=SL 1 (liR l)∧∀a∈l,a.length≤140737488351232∧∀d∈a,d.ok:=by
 obtain⟨k,b,_,c⟩:=g;have c:=c (by simp[Zaz]);subst c;unfold TypW at b;rw[wT82]at b;obtain⟨rows,e,m,i⟩:=b;obtain⟨l,rfl,j⟩:=Zge (f:=λa:List DeD=>[SL 8 (deR a)]) (Q:=λa=>a.length≤140737488351232∧∀d∈a,d.ok) rows (λr h=>typ_deeds (i r h));exact⟨l,by rw[c66]at e;simpa using e,j⟩
theorem typ_u8lW{s:SV}(c:TypVW Tryz.prog 9 72 s):∃l:List Int,s=SL 1 (l.map λn=>[U8 n])∧∀n∈l,0≤n∧n≤255:=by
 obtain⟨i,a,_,b⟩:=c;have b:=b (by simp[Zaz]);subst b;unfold TypW at a;rw[wT25]at a;obtain⟨rows,e,j,g⟩:=a;obtain⟨l,rfl,h⟩:=Zge (f:=λn:Int=>[U8 n]) (Q:=λn=>0≤n∧n≤255) rows (λr d=>Zwg (g r d));exact⟨l,by rw[c5W]at e;simpa using e,h⟩
end Go.Proofs.YtgehiiginclniaaGreatDoor.Jou
