import Derived.Test.YtgehiiginclniaaGreatDoorJTd
import Derived.Test.YtgehiiginclniaaGreatDoorGlj
import Derived.Test.YtgehiiginclniaaGreatDoorK15
import Derived.Test.YtgehiiginclniaaGreatDoorJoS2
import Derived.Test.YtgehiiginclniaaGreatDoorJoS3c
import Derived.Test.YtgehiiginclniaaGreatDoorRows
import Derived.Test.YtgehiiginclniaaGreatDoorCards
import Derived.Test.YtgehiiginclniaaGreatDoorTie
import Derived.Lay
import Derived.SevenTiedAt
set_option linter.all false
namespace Go.Proofs.YtgehiiginclniaaGreatDoor
open Go Go.Px Go.Proofs Go.ChangeShapes Go.WideShapes Go.ChangeAt Go.RowKit Jou
set_option maxRecDepth 100000
theorem journalCut_law(a:List SV)(h:Zoh Tryz.prog 9 Tryz.f5.params.toList a):Ct Tryz.prog 5 {} a (λr=>r=[.val (.bool true)]):=by
 have e:Tryz.f5.params.toList=[5,65,66,65]:=(by kernel_rfl);rw[e]at h;obtain⟨q,_,rfl,c,s,_,rfl,d,t,_,rfl,f,u,_,rfl,g,rfl⟩:=h;obtain⟨i,rfl,j⟩:=Jou.typ_u8W c;obtain⟨b,rfl,k⟩:=Jou.typ_u16W d;obtain⟨l,rfl,m,o⟩:=Jou.typ_deedsW f;obtain⟨n,rfl,p⟩:=Jou.typ_u16W g;exact Jou.lcut_fn i b n j k p l o m
theorem journalCut_lifted(d:Os)(c:d.Started)(H:Type)(b:TypeId×Value→H):
  ReturnsInHanded {} Tryz.checked d 5 .any (λw a=>(Rows.journalCutSpec.pre b Tryz.prog Tryz.f5 Rows.journalCutRow.domain false w a∧laidMetH Tryz.prog Rows.journalCutRow.laid w)∧sizedMet b Tryz.prog Tryz.f5 (OpenSpec.ofChange Rows.journalCutSpec) false w a)
   (Rows.journalCutSpec.post b Tryz.prog Tryz.f5 false true false false):=by
 refine returnsInHanded_of_change_and (C:=Tryz.checked) (X:=λw _=>laidMetH Tryz.prog Rows.journalCutRow.laid w) (λ_ _ _ j h=>h.of_heap j) Jou.own c (by kernel_rfl) Tryz.func5
  (ChangeSpec.witness_shaped (enc:=b) (C:=Tryz.checked) (os:=d) (X:=λw _=>laidMetH Tryz.prog Rows.journalCutRow.laid w) false (World.laidAll Tryz.prog d Rows.journalCutRow.laid) #[.int .u8 0,.int .u16 0,.slice none 0 0,.int .u16 0] 8 (World.laidAll_os _ _ _)
   (World.shaped_of_ZipB (by kernel_rfl) (by kernel_rfl)) (by kernel_rfl) (by kernel_rfl) (by kernel_rfl)
   (by rw[MakeChecks.laidMetH_plain _ _ _ (by kernel_rfl)];exact laidMet_laidAll _ (by kernel_rfl) (by kernel_rfl))) ?_
 intro W f a m n e g o _ i p _;exact Zoi 9 Rows.journalCutSpec 4 rfl Jou.laidOut (by kernel_rfl) (by kernel_rfl) Jou.uB W f a m n e (λl k=>match l,k with| [_,_,_,_],_=>⟨rfl,rfl,rfl⟩) g o i (gl_laid p) journalCut_law
theorem journalCut_said:Rows.JournalCutSaid:=
 OpenClaim.holds_of_wide 5 Tryz.f5 rfl rfl rfl rfl rfl rfl rfl ⟨rfl,rfl,rfl,rfl,rfl⟩ rfl rfl rfl rfl rfl (by kernel_rfl) Tryz.func5 (cut_facts)
  (of_decide_eq_true (by kernel_rfl)) (by unfold Func.isWrapper;first|(rw[if_pos (by decide+kernel)];kernel_rfl)|(rw[if_neg (by decide+kernel)];exact⟨rfl,rfl⟩))
  (λc a H b _=>journalCut_lifted c a H b)
theorem journalCut_wants:(Tryz.f5.params.all λt=>!(Tryz.prog.wantsStandIn t))=true:=by kernel_rfl
theorem journalCut_holds:Rows.JournalCutCardSaid:=
 Claim7.holds_tied_plain_at .later [] [.data,.data,.data,.sentinel,.sentinel] true (true,"d8690f3d99451ee76a50dbde1e95c61736daf4304cac55d77cc8d68025def9e3") true
  journalCut_said (λ_ h=>by cases h) (by kernel_rfl) (λ_ h=>by cases h) journalCut_row_tie rfl ⟨rfl,rfl⟩ (by kernel_rfl) rfl
  (λf b c a=>by
   obtain rfl:f=5:=Option.some.inj ((show Tryz.prog.funcNamed "fusebox/fuseboxlaw19.JournalCut" =some 5 by kernel_rfl).symm.trans c)|>.symm
   obtain rfl:b=Tryz.f5:=(Option.some.inj (Tryz.func5.symm.trans a)).symm
   exact⟨by kernel_rfl,λj t d=>by
    have h:=Array.all_eq_true_iff_forall_mem.1 journalCut_wants t (Array.mem_of_getElem? d);have e:Tryz.prog.wantsStandIn t=false:=by simpa using h
    exact e⟩)
  (goes_no rfl Zzn)
end Go.Proofs.YtgehiiginclniaaGreatDoor
