import Derived.Test.YtgehiiginclniaaGreatDoorKpT
import Derived.Test.YtgehiiginclniaaGreatDoorGlj
import Derived.Test.YtgehiiginclniaaGreatDoorK16
import Derived.Test.YtgehiiginclniaaGreatDoorJoS2
import Derived.Test.YtgehiiginclniaaGreatDoorJoS3k
import Derived.Test.YtgehiiginclniaaGreatDoorRows
import Derived.Test.YtgehiiginclniaaGreatDoorCards
import Derived.Test.YtgehiiginclniaaGreatDoorTie
import Derived.Lay
import Derived.SevenTiedAt
set_option linter.all false
namespace Go.Proofs.YtgehiiginclniaaGreatDoor
open Go Go.Px Go.Proofs Go.ChangeShapes Go.WideShapes Go.ChangeAt Go.RowKit Jou
set_option maxRecDepth 100000
theorem keepCovers_law(a:List SV)(h:Zo3 Tryz.prog 10 Tryz.f9.params.toList a):Ct Tryz.prog 9 {} a (λr=>r=[.val (.bool true)]):=by
 have e:Tryz.f9.params.toList=[41,5]:=(by kernel_rfl);rw[e]at h;obtain⟨g,_,rfl,b,i,_,rfl,c,rfl⟩:=h;obtain⟨j,rfl,d⟩:=Jou.typ_jouW b;obtain⟨n,rfl,f⟩:=Jou.typ_b8W c;exact Jou.kcovers_fn j d n f
theorem keepCovers_lifted(d:Os)(c:d.Started)(H:Type)(b:TypeId×Value→H):
  ReturnsInHanded {} Tryz.checked d 9 .any (λw a=>(Rows.keepCoversSpec.pre b Tryz.prog Tryz.f9 Rows.keepCoversRow.domain false w a∧laidMetH Tryz.prog Rows.keepCoversRow.laid w)∧sizedMet b Tryz.prog Tryz.f9 (OpenSpec.ofChange Rows.keepCoversSpec) false w a)
   (Rows.keepCoversSpec.post b Tryz.prog Tryz.f9 false true false false):=by
 refine returnsInHanded_of_change_and (C:=Tryz.checked) (X:=λw _=>laidMetH Tryz.prog Rows.keepCoversRow.laid w) (λ_ _ _ j h=>h.of_heap j) Jou.own c (by kernel_rfl) Tryz.func9
  (ChangeSpec.witness_shaped (enc:=b) (C:=Tryz.checked) (os:=d) (X:=λw _=>laidMetH Tryz.prog Rows.keepCoversRow.laid w) false (World.laidAll Tryz.prog d Rows.keepCoversRow.laid) #[.agg #[.slice none 0 0,.int .i64 0,.int .i64 0,.bool false,.int .i64 0,.int .i64 0,.slice none 0 0,.int .i64 0,.int .i64 0,.slice none 0 0,.slice none 0 0,.int .i64 0,.int .i64 0,.int .i64 0,.int .i64 0,.bool false],.int .u8 0] 8 (World.laidAll_os _ _ _)
   (World.shaped_of_ZipB (by kernel_rfl) (by kernel_rfl)) (by kernel_rfl) (by kernel_rfl) (by kernel_rfl)
   (by rw[MakeChecks.laidMetH_plain _ _ _ (by kernel_rfl)];exact laidMet_laidAll _ (by kernel_rfl) (by kernel_rfl))) ?_
 intro W f a m n e g o _ i p _;exact Zo4 10 Rows.keepCoversSpec 4 rfl Jou.laidOut (by kernel_rfl) (by kernel_rfl) Jou.uB W f a m n e (λl k=>match l,k with| [_,_],_=>⟨rfl,rfl,rfl⟩) g o i (gl_laid p) keepCovers_law
theorem keepCovers_said:Rows.KeepCoversSaid:=
 OpenClaim.holds_of_wide 9 Tryz.f9 rfl rfl rfl rfl rfl rfl rfl ⟨rfl,rfl,rfl,rfl,rfl⟩ rfl rfl rfl rfl rfl (by kernel_rfl) Tryz.func9 (Zr4)
  (of_decide_eq_true (by kernel_rfl)) (by unfold Func.isWrapper;first|(rw[if_pos (by decide+kernel)];kernel_rfl)|(rw[if_neg (by decide+kernel)];exact⟨rfl,rfl⟩))
  (λc a H b _=>keepCovers_lifted c a H b)
theorem keepCovers_wants:(Tryz.f9.params.all λt=>!(Tryz.prog.wantsStandIn t))=true:=by kernel_rfl
theorem keepCovers_holds : Rows.KeepCoversCardSaid :=
  Claim7.holds_tied_plain_at .later [] [.data, .data, .data, .sentinel, .sentinel] true (true, "d8690f3d99451ee76a50dbde1e95c61736daf4304cac55d77cc8d68025def9e3") true
    keepCovers_said (fun _ h => by cases h) (by kernel_rfl) (fun _ h => by cases h) keepCovers_row_tie rfl ⟨rfl, rfl⟩ (by kernel_rfl) rfl
    (fun f fn hf hfn => by
      obtain rfl : f = 9 := Option.some.inj ((show Tryz.prog.funcNamed "fusebox/fuseboxlaw20.KeepCovers" = some 9 by kernel_rfl).symm.trans hf) |>.symm
      obtain rfl : fn = Tryz.f9 := (Option.some.inj (Tryz.func9.symm.trans hfn)).symm
      exact ⟨by kernel_rfl, fun j t ht => by
        have h := Array.all_eq_true_iff_forall_mem.1 keepCovers_wants t (Array.mem_of_getElem? ht)
        have h2 : Tryz.prog.wantsStandIn t = false := by simpa using h
        exact h2⟩)
    (goes_no rfl goes_none)
end Go.Proofs.YtgehiiginclniaaGreatDoor
