import Derived.Test.YtgehiiginclniaaGreatDoorJTe
import Derived.Test.YtgehiiginclniaaGreatDoorGlj
import Derived.Test.YtgehiiginclniaaGreatDoorK15
import Derived.Test.YtgehiiginclniaaGreatDoorJoS2
import Derived.Test.YtgehiiginclniaaGreatDoorJoS3a
import Derived.Test.YtgehiiginclniaaGreatDoorRows
import Derived.Test.YtgehiiginclniaaGreatDoorCards
import Derived.Test.YtgehiiginclniaaGreatDoorTie
import Derived.Lay
import Derived.SevenTiedAt
set_option linter.all false
namespace Go.Proofs.YtgehiiginclniaaGreatDoor
open Go Go.Px Go.Proofs Go.ChangeShapes Go.WideShapes Go.ChangeAt Go.RowKit Jou
set_option maxRecDepth 100000
theorem journalLasts_law(c:List SV)(h:Zo8 Tryz.prog 9 Tryz.f6.params.toList c):Ct Tryz.prog 6 {} c (λr=>r=[.val (.bool true)]):=by
 have e:Tryz.f6.params.toList=[5,65,82,72,27]:=(by kernel_rfl);rw[e]at h;obtain⟨u,_,rfl,g,v,_,rfl,i,w,_,rfl,j,x,_,rfl,k,s4,_,rfl,m,rfl⟩:=h;obtain⟨n,rfl,o⟩:=Jou.typ_u8W g;obtain⟨d,rfl,p⟩:=Jou.typ_u16W i;obtain⟨l,rfl,f⟩:=Jou.typ_livesW j;obtain⟨q,rfl,s⟩:=Jou.typ_u8lW k;obtain⟨t,rfl,y⟩:=Jou.typ_intW m;exact Jou.llasts_fn n d o p l (λa b=>(f a b).2) q s t (λa b=>(f a b).1)
theorem journalLasts_lifted(d:Os)(c:d.Started)(H:Type)(b:TypeId×Value→H):
  ReturnsInHanded {} Tryz.checked d 6 .any (λw a=>(Rows.journalLastsSpec.pre b Tryz.prog Tryz.f6 Rows.journalLastsRow.domain false w a∧laidMetH Tryz.prog Rows.journalLastsRow.laid w)∧sizedMet b Tryz.prog Tryz.f6 (OpenSpec.ofChange Rows.journalLastsSpec) false w a)
   (Rows.journalLastsSpec.post b Tryz.prog Tryz.f6 false true false false):=by
 refine returnsInHanded_of_change_and (C:=Tryz.checked) (X:=λw _=>laidMetH Tryz.prog Rows.journalLastsRow.laid w) (λ_ _ _ j h=>h.of_heap j) Jou.own c (by kernel_rfl) Tryz.func6
  (ChangeSpec.witness_shaped (enc:=b) (C:=Tryz.checked) (os:=d) (X:=λw _=>laidMetH Tryz.prog Rows.journalLastsRow.laid w) false (World.laidAll Tryz.prog d Rows.journalLastsRow.laid) #[.int .u8 0,.int .u16 0,.slice none 0 0,.slice none 0 0,.slice none 0 0] 8 (World.laidAll_os _ _ _)
   (World.shaped_of_ZipB (by kernel_rfl) (by kernel_rfl)) (by kernel_rfl) (by kernel_rfl) (by kernel_rfl)
   (by rw[MakeChecks.laidMetH_plain _ _ _ (by kernel_rfl)];exact laidMet_laidAll _ (by kernel_rfl) (by kernel_rfl))) ?_
 intro W f a m n e g o _ i p _;exact Zo9 9 Rows.journalLastsSpec 4 rfl Jou.laidOut (by kernel_rfl) (by kernel_rfl) Jou.uB W f a m n e (λl k=>match l,k with| [_,_,_,_,_],_=>⟨rfl,rfl,rfl⟩) g o i (gl_laid p) journalLasts_law
theorem journalLasts_said:Rows.JournalLastsSaid:=
 OpenClaim.holds_of_wide 6 Tryz.f6 rfl rfl rfl rfl rfl rfl rfl ⟨rfl,rfl,rfl,rfl,rfl⟩ rfl rfl rfl rfl rfl (by kernel_rfl) Tryz.func6 (Zsw)
  (of_decide_eq_true (by kernel_rfl)) (by unfold Func.isWrapper;first|(rw[if_pos (by decide+kernel)];kernel_rfl)|(rw[if_neg (by decide+kernel)];exact⟨rfl,rfl⟩))
  (λc a H b _=>journalLasts_lifted c a H b)
theorem journalLasts_wants:(Tryz.f6.params.all λt=>!(Tryz.prog.wantsStandIn t))=true:=by kernel_rfl
theorem journalLasts_holds:Rows.JournalLastsCardSaid:=
 Claim7.holds_tied_plain_at .later [] [.data,.data,.data,.sentinel,.sentinel] true (true,"d8690f3d99451ee76a50dbde1e95c61736daf4304cac55d77cc8d68025def9e3") true
  journalLasts_said (λ_ h=>by cases h) (by kernel_rfl) (λ_ h=>by cases h) journalLasts_row_tie rfl ⟨rfl,rfl⟩ (by kernel_rfl) rfl
  (λf b c a=>by
   obtain rfl:f=6:=Option.some.inj ((show Tryz.prog.funcNamed "fusebox/fuseboxlaw19.JournalLasts" =some 6 by kernel_rfl).symm.trans c)|>.symm
   obtain rfl:b=Tryz.f6:=(Option.some.inj (Tryz.func6.symm.trans a)).symm
   exact⟨by kernel_rfl,λj t d=>by
    have h:=Array.all_eq_true_iff_forall_mem.1 journalLasts_wants t (Array.mem_of_getElem? d);have e:Tryz.prog.wantsStandIn t=false:=by simpa using h
    exact e⟩)
  (goes_no rfl goes_none)
end Go.Proofs.YtgehiiginclniaaGreatDoor
