import Derived.Test.YtgehiiginclniaaGreatDoorJT
import Derived.Test.YtgehiiginclniaaGreatDoorGlj
import Derived.Test.YtgehiiginclniaaGreatDoorK15
import Derived.Test.YtgehiiginclniaaGreatDoorJoS2
import Derived.Test.YtgehiiginclniaaGreatDoorJoS3
import Derived.Test.YtgehiiginclniaaGreatDoorRows
import Derived.Test.YtgehiiginclniaaGreatDoorCards
import Derived.Test.YtgehiiginclniaaGreatDoorTie
import Derived.Lay
import Derived.SevenTiedAt
set_option linter.all false
namespace Go.Proofs.YtgehiiginclniaaGreatDoor
open Go Go.Px Go.Proofs Go.ChangeShapes Go.WideShapes Go.ChangeAt Go.RowKit Jou
set_option maxRecDepth 100000
theorem journalAgain_law(a:List SV)(h:Zof Tryz.prog 9 Tryz.f3.params.toList a):Ct Tryz.prog 3 {} a (λr=>r=[.val (.bool true)]):=by
 have e:Tryz.f3.params.toList=[24,26,5,27]:=(by kernel_rfl);rw[e]at h;obtain⟨p,_,rfl,b,q,_,rfl,c,s,_,rfl,f,t,_,rfl,g,rfl⟩:=h;obtain⟨d,rfl,i⟩:=Jou.typ_dskW b;obtain⟨j,k,rfl⟩:=Jou.typ_cfg c;obtain⟨n,rfl,l⟩:=Jou.typ_u8W f;obtain⟨m,rfl,o⟩:=Jou.typ_intW g;exact Jou.law3_fn d i j k n l m o
theorem journalAgain_lifted(d:Os)(c:d.Started)(H:Type)(b:TypeId×Value→H):
  ReturnsInHanded {} Tryz.checked d 3 .any (λw a=>(Rows.journalAgainSpec.pre b Tryz.prog Tryz.f3 Rows.journalAgainRow.domain false w a∧laidMetH Tryz.prog Rows.journalAgainRow.laid w)∧sizedMet b Tryz.prog Tryz.f3 (OpenSpec.ofChange Rows.journalAgainSpec) false w a)
   (Rows.journalAgainSpec.post b Tryz.prog Tryz.f3 false true false false):=by
 refine returnsInHanded_of_change_and (C:=Tryz.checked) (X:=λw _=>laidMetH Tryz.prog Rows.journalAgainRow.laid w) (λ_ _ _ j h=>h.of_heap j) Jou.own c (by kernel_rfl) Tryz.func3
  (ChangeSpec.witness_shaped (enc:=b) (C:=Tryz.checked) (os:=d) (X:=λw _=>laidMetH Tryz.prog Rows.journalAgainRow.laid w) false (World.laidAll Tryz.prog d Rows.journalAgainRow.laid) #[.agg #[.slice none 0 0,.int .i64 0,.int .i64 0,.bool false],.agg #[.int .i64 0,.int .i64 0],.int .u8 0,.slice none 0 0] 8 (World.laidAll_os _ _ _)
   (World.shaped_of_ZipB (by kernel_rfl) (by kernel_rfl)) (by kernel_rfl) (by kernel_rfl) (by kernel_rfl)
   (by rw[MakeChecks.laidMetH_plain _ _ _ (by kernel_rfl)];exact laidMet_laidAll _ (by kernel_rfl) (by kernel_rfl))) ?_
 intro W f a m n e g o _ i p _;exact Zog 9 Rows.journalAgainSpec 4 rfl Jou.laidOut (by kernel_rfl) (by kernel_rfl) Jou.uB W f a m n e (λl k=>match l,k with| [_,_,_,_],_=>⟨rfl,rfl,rfl⟩) g o i (gl_laid p) journalAgain_law
theorem journalAgain_said:Rows.JournalAgainSaid:=
 OpenClaim.holds_of_wide 3 Tryz.f3 rfl rfl rfl rfl rfl rfl rfl ⟨rfl,rfl,rfl,rfl,rfl⟩ rfl rfl rfl rfl rfl (by kernel_rfl) Tryz.func3 (Zte)
  (of_decide_eq_true (by kernel_rfl)) (by unfold Func.isWrapper;first|(rw[if_pos (by decide+kernel)];kernel_rfl)|(rw[if_neg (by decide+kernel)];exact⟨rfl,rfl⟩))
  (λc a H b _=>journalAgain_lifted c a H b)
theorem journalAgain_wants:(Tryz.f3.params.all λt=>!(Tryz.prog.wantsStandIn t))=true:=by kernel_rfl
theorem journalAgain_holds:Rows.JournalAgainCardSaid:=
 Claim7.holds_tied_plain_at .later [] [.data,.data,.data,.sentinel,.sentinel] true (true,"d8690f3d99451ee76a50dbde1e95c61736daf4304cac55d77cc8d68025def9e3") true
  journalAgain_said (λ_ h=>by cases h) (by kernel_rfl) (λ_ h=>by cases h) journalAgain_row_tie rfl ⟨rfl,rfl⟩ (by kernel_rfl) rfl
  (λf b c a=>by
   obtain rfl:f=3:=Option.some.inj ((show Tryz.prog.funcNamed "fusebox/fuseboxlaw19.JournalAgain" =some 3 by kernel_rfl).symm.trans c)|>.symm
   obtain rfl:b=Tryz.f3:=(Option.some.inj (Tryz.func3.symm.trans a)).symm
   exact⟨by kernel_rfl,λj t d=>by
    have h:=Array.all_eq_true_iff_forall_mem.1 journalAgain_wants t (Array.mem_of_getElem? d);have e:Tryz.prog.wantsStandIn t=false:=by simpa using h
    exact e⟩)
  (goes_no rfl Zzj)
end Go.Proofs.YtgehiiginclniaaGreatDoor
