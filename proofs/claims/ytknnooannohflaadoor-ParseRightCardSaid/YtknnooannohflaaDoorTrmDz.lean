/- A function whose walk is the library's own, as a contract; the table of powers of ten. -/
import Derived.Test.YtknnooannohflaaDoorTrS
namespace Go.Proofs.YtknnooannohflaaDoor.Trm
open Go Go.Px Go.Proofs Go.RowKit
set_option maxRecDepth 100000
set_option linter.unusedVariables false

theorem Zv3 {vs : Array Value} {l : List Value} (h : vs.toList = l) : vs = l.toArray := by rw [← h]

theorem Zbq {P : Program} {f : FuncId} {args : List SV} {rv : Value} (hc : Ct P f {} args (fun r => r = [.val rv])) {h : Hp} {w : World} (hs : HSub h w) (hg : Gl h w) {ρ : Nat → Px.Loc} {vs : Array Value} (hr : Zgh h ρ vs.toList args) :
  Calls P f vs w fun e w' => e = .returned rv ∧ Below w.heap.size w w' := by
 obtain ⟨_, hc⟩ := hc; refine (hc args [] (Zaz _ _ _) h ρ w vs ⟨hs, fun id o hm => (by simp at hm), fun i j hi => by obtain ⟨⟨o, e⟩, _⟩ := hi; simp [oget] at e⟩ hg hr).mono ?_; rintro e w' ⟨vr, h', ρ', rs, hr', objs', rfl, rfl, he, hrep, _, _, _, _, _, hk⟩; have hno : ∀ b, ¬ Gv [] ρ b := fun b hb => by obtain ⟨i, ⟨⟨o, e⟩, _⟩, _⟩ := hb; simp [oget] at e
 have hB : Below w.heap.size w w' := ⟨hk.os, hk.tape, hk.output, hk.size, fun k hk' => hk.block k hk' (hno k)⟩
 unfold endH at he; rw [Zaz] at he
 match vr, he, hrep with
 | [], he, hrep => simp [lentH] at he
 | [v], he, hrep => simp [lentH] at he; obtain ⟨rfl, rfl⟩ := he; have := (hrep.2 0 v _ rfl rfl).val_inv; subst this; exact ⟨rfl, hB⟩
 | v :: u :: vr, he, hrep =>
  have h1 := hrep.1
  cases hl : lentH 0 ({} : Sig).ps (List.drop (v :: u :: vr).length [SV.val rv]) with
  | none => rw [hl] at he; simp at he
  | some os => rw [hl] at he; simp at he; obtain ⟨rfl, rfl⟩ := he; simp at h1
end Go.Proofs.YtknnooannohflaaDoor.Trm
