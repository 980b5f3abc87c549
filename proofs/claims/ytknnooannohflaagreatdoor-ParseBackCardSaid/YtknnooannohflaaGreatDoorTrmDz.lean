/- A function whose walk is the library's own, as a contract; the table of powers of ten. -/
import Derived.Test.YtknnooannohflaaGreatDoorTrS
import Derived.Test.YtknnooannohflaaGreatDoorSht
namespace Go.Proofs.YtknnooannohflaaGreatDoor.Trm
open Go Go.Px Go.Proofs Go.RowKit
set_option maxRecDepth 100000
set_option linter.unusedVariables false

theorem ct_of_callsR {P : Program} {f : FuncId} {fn : Func} (hf : P.funcs[f]? = some fn) (hb : fn.body.isSome = true) (hn : (fn.name == "runtime.NumGoroutine") = false) (args : List SV) (Q : List SV → Prop)
  (hc : ∀ (h : Hp) (ρ : Nat → Px.Loc) (w : World) (vs : Array Value), HSub h w → Gl h w → RepAll h ρ vs.toList args → Calls P f vs w fun e w' => ∃ (vr : List Value) (rs : List SV), e = .returned (rets vr) ∧ vr.length = rs.length ∧
   (∀ (i : Nat) v s, vr[i]? = some v → rs[i]? = some s → PRep h v s) ∧ Q rs ∧ Below w.heap.size w w') : Ct P f {} args Q := by
 refine ⟨⟨fn, hf, hb, fun e => by rw [e] at hn; simp at hn⟩, fun hs objs hargs h ρ w vs hH hgl hrep => ?_⟩
 rw [argsH_pureAll] at hargs
 cases hargs
 refine (hc h ρ w vs hH.sub hgl hrep).mono ?_
 rintro e w' ⟨vr, rs, rfl, hl, hp, hq, hbl⟩
 have hsub : HSub h w' := hsub_carry hH.sub (fun b hb => hbl.block b hb)
 have hold : Px.Holds h ρ [] w' := ⟨hsub, fun id o hm => (by simp at hm), fun i j hi => by obtain ⟨⟨o, e⟩, _⟩ := hi; simp [oget] at e⟩
 have hend : endH {} vr.length rs = some (rs, []) := by
  unfold endH
  rw [hl]
  simp [argsH_pureAll, lentH]
 exact ⟨vr, h, ρ, rs, rs, [], rfl, hq, hend, ⟨hl, fun i v s hv hs => .pure _ _ (hp i v s hv hs)⟩, hold, fun i hi => (by obtain ⟨⟨o, e⟩, _⟩ := hi; simp [oget] at e), ⟨fun i ms hm => (by simp at hm), fun _ _ => rfl⟩, HLe.refl h, fun b _ _ o e => e,
  ⟨hbl.os, hbl.tape, hbl.output, hbl.size, fun k hk _ => hbl.block k hk⟩⟩

theorem arr_of {vs : Array Value} {l : List Value} (h : vs.toList = l) : vs = l.toArray := by rw [← h]

theorem tab_is {h : Hp} {w : World} (hs : HSub h w) (g : Gl h w) : Lib.TabIs Tryz.prog w "internal/strconv.uint64pow10" .u64 Lib.pow10Tab := by
 have hn : Tryz.prog.globalNamed "internal/strconv.uint64pow10" = some 1 := by kernel_rfl
 have hp : (1, pow10) ∈ globTab := by simp [globTab]
 obtain ⟨_, cs, t, fz, hb, hsz⟩ := g.size _ hp
 have hcell : ∀ (i : Nat) (z : Int), Lib.pow10Tab[i]? = some z → cs[i]? = some (.int .u64 z) := by
  intro i z hz
  have hc : pow10[i]? = some (.val (.int .u64 z)) := by
   have : pow10 = Lib.pow10Tab.map fun z => SV.val (.int .u64 z) := by kernel_rfl
   rw [this, List.getElem?_map, hz]; rfl
  obtain ⟨v, h1, h2⟩ := g.cells _ hp i _ hc
  have h3 := hs _ _ _ h1
  have h4 : v = .int .u64 z := (Rep.pure (ρ := fun _ => noLoc) v _ h2).val_inv
  subst h4
  simp only [World.cell?, hb] at h3
  simpa using h3
 have hl : pow10.length = Lib.pow10Tab.length := by decide +kernel
 unfold Lib.TabIs World.var?
 rw [hn]
 simp only [Option.bind_some, hb]
 congr 1
 apply Array.ext
 ·rw [hsz]; simp [hl]
 ·intro i h1 h2
  have h3 : i < Lib.pow10Tab.length := by simp at h2; omega
  have := hcell i _ (List.getElem?_eq_getElem h3)
  rw [Array.getElem?_eq_getElem h1] at this
  simpa using this

theorem calls_of_ct {P : Program} {f : FuncId} {args : List SV} {rv : Value} (hc : Ct P f {} args (fun r => r = [.val rv])) {h : Hp} {w : World} (hs : HSub h w) (hg : Gl h w) {ρ : Nat → Px.Loc} {vs : Array Value} (hr : RepAll h ρ vs.toList args) :
  Calls P f vs w fun e w' => e = .returned rv ∧ Below w.heap.size w w' := by
 obtain ⟨_, hc⟩ := hc
 refine (hc args [] (argsH_pureAll _ _ _) h ρ w vs ⟨hs, fun id o hm => (by simp at hm), fun i j hi => by obtain ⟨⟨o, e⟩, _⟩ := hi; simp [oget] at e⟩ hg hr).mono ?_
 rintro e w' ⟨vr, h', ρ', rs, hr', objs', rfl, rfl, he, hrep, _, _, _, _, _, hk⟩
 have hno : ∀ b, ¬ Gv [] ρ b := fun b hb => by
  obtain ⟨i, ⟨⟨o, e⟩, _⟩, _⟩ := hb
  simp [oget] at e
 have hB : Below w.heap.size w w' := ⟨hk.os, hk.tape, hk.output, hk.size, fun k hk' => hk.block k hk' (hno k)⟩
 unfold endH at he
 rw [argsH_pureAll] at he
 match vr, he, hrep with
 | [], he, hrep => simp [lentH] at he
 | [v], he, hrep =>
  simp [lentH] at he
  obtain ⟨rfl, rfl⟩ := he
  have := (hrep.2 0 v _ rfl rfl).val_inv
  subst this
  exact ⟨rfl, hB⟩
 | v :: u :: vr, he, hrep =>
  have h1 := hrep.1
  cases hl : lentH 0 ({} : Sig).ps (List.drop (v :: u :: vr).length [SV.val rv]) with
  | none => rw [hl] at he; simp at he
  | some os =>
   rw [hl] at he
   simp at he
   obtain ⟨rfl, rfl⟩ := he
   simp at h1
end Go.Proofs.YtknnooannohflaaGreatDoor.Trm
