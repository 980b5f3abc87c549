import Derived.Test.YtaenkbbfockfgaaGreatDoorQuT
import Derived.Test.YtaenkbbfockfgaaGreatDoorGlj
import Derived.Test.YtaenkbbfockfgaaGreatDoorK16
import Derived.Test.YtaenkbbfockfgaaGreatDoorJoS2
import Derived.Test.YtaenkbbfockfgaaGreatDoorJoS3q5
import Derived.Test.YtaenkbbfockfgaaGreatDoorRows
import Derived.Test.YtaenkbbfockfgaaGreatDoorCards
import Derived.Test.YtaenkbbfockfgaaGreatDoorTie
import Derived.Lay
import Derived.SevenTiedAt
set_option linter.all false
namespace Go.Proofs.YtaenkbbfockfgaaGreatDoor
open Go Go.Px Go.Proofs Go.ChangeShapes Go.WideShapes Go.ChangeAt Go.RowKit Jou
set_option maxRecDepth 100000
theorem queryForeign_law(a:List SV)(h:Zof Tryz.prog Tryz.f5.params.toList a):Ct Tryz.prog 5 {} a (λr=>r=[.val (.bool true)]):=by
 have e:Tryz.f5.params.toList=[35,38,38,9]:=(by kernel_rfl);rw[e]at h;obtain⟨n,_,rfl,b,o,_,rfl,c,p,_,rfl,d,q,_,rfl,i,rfl⟩:=h;obtain⟨j,rfl,k⟩:=Qry.typ_jou b;obtain⟨f,rfl,l⟩:=Qry.typ_flt c;obtain⟨g,rfl,m⟩:=Qry.typ_flt d;obtain⟨t,rfl,_⟩:=Qry.typ_str i;exact Qry.qforeign_fn Qry.qawake_fn j k f g l m t
theorem queryForeign_lifted(d:Os)(c:d.Started)(H:Type)(b:TypeId×Value→H):
  ReturnsInHanded {} Tryz.checked d 5 .any (λw a=>(Rows.queryForeignSpec.pre b Tryz.prog Tryz.f5 Rows.queryForeignRow.domain false w a∧laidMetH Tryz.prog Rows.queryForeignRow.laid w)∧sizedMet b Tryz.prog Tryz.f5 (OpenSpec.ofChange Rows.queryForeignSpec) false w a)
   (Rows.queryForeignSpec.post b Tryz.prog Tryz.f5 false true false false):=by
 refine returnsInHanded_of_change_and (C:=Tryz.checked) (X:=λw _=>laidMetH Tryz.prog Rows.queryForeignRow.laid w) (λ_ _ _ j h=>h.of_heap j) Jou.own c (by kernel_rfl) Tryz.func5
  (ChangeSpec.witness_shaped (enc:=b) (C:=Tryz.checked) (os:=d) (X:=λw _=>laidMetH Tryz.prog Rows.queryForeignRow.laid w) false (World.laidAll Tryz.prog d Rows.queryForeignRow.laid) #[.agg #[.slice none 0 0,.int .i64 0,.int .i64 0,.bool false,.int .i64 0,.int .i64 0,.slice none 0 0,.int .i64 0,.int .i64 0,.slice none 0 0,.slice none 0 0,.int .i64 0,.int .i64 0,.int .i64 0,.int .i64 0,.bool false],.agg #[.int .i64 0,.int .i64 0,.int .i64 0,.string ByteArray.empty,.slice none 0 0],.agg #[.int .i64 0,.int .i64 0,.int .i64 0,.string ByteArray.empty,.slice none 0 0],.string ByteArray.empty] 8 (World.laidAll_os _ _ _)
   (World.shaped_of_ZipB (by kernel_rfl) (by kernel_rfl)) (by kernel_rfl) (by kernel_rfl) (by kernel_rfl)
   (by rw[MakeChecks.laidMetH_plain _ _ _ (by kernel_rfl)];exact laidMet_laidAll _ (by kernel_rfl) (by kernel_rfl))) ?_
 intro W f a m n e g o _ i p _;exact Zog Qry.S0 Qry.hS0 Rows.queryForeignSpec 4 rfl Jou.laidOut (by kernel_rfl) (by kernel_rfl) Jou.uB W f a m n e (λl k=>match l,k with| [_,_,_,_],_=>⟨rfl,rfl,rfl⟩) g o i (gl_laid p) queryForeign_law
theorem queryForeign_said:Rows.QueryForeignSaid:=
 OpenClaim.holds_of_wide 5 Tryz.f5 rfl rfl rfl rfl rfl rfl rfl ⟨rfl,rfl,rfl,rfl,rfl⟩ rfl rfl rfl rfl rfl (by kernel_rfl) Tryz.func5 (q5_facts)
  (of_decide_eq_true (by kernel_rfl)) (by unfold Func.isWrapper;first|(rw[if_pos (by decide+kernel)];kernel_rfl)|(rw[if_neg (by decide+kernel)];exact⟨rfl,rfl⟩))
  (λc a H b _=>queryForeign_lifted c a H b)
theorem queryForeign_wants:(Tryz.f5.params.all λt=>!(Tryz.prog.wantsStandIn t))=true:=by kernel_rfl
theorem queryForeign_holds:Rows.QueryForeignCardSaid:=
 Claim7.holds_tied_plain_at .later [] [.data,.data,.data,.sentinel,.sentinel] true (true,"db21769a86436362995aee2a7f6669a2c437afd2181a72f5120bb79d1f71b3f0") true
  queryForeign_said (λ_ h=>by cases h) (by kernel_rfl) (λ_ h=>by cases h) queryForeign_row_tie rfl ⟨rfl,rfl⟩ (by kernel_rfl) rfl
  (λf b c a=>by
   obtain rfl:f=5:=Option.some.inj ((show Tryz.prog.funcNamed "fusebox/fuseboxlaw25.QueryForeign" =some 5 by kernel_rfl).symm.trans c)|>.symm
   obtain rfl:b=Tryz.f5:=(Option.some.inj (Tryz.func5.symm.trans a)).symm
   exact⟨by kernel_rfl,λj t d=>by
    have h:=Array.all_eq_true_iff_forall_mem.1 queryForeign_wants t (Array.mem_of_getElem? d);have e:Tryz.prog.wantsStandIn t=false:=by simpa using h
    exact e⟩)
  (goes_no rfl Zz9)
end Go.Proofs.YtaenkbbfockfgaaGreatDoor
