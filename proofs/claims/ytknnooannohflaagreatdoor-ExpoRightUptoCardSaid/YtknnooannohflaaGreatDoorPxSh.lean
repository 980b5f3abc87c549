/- A contract of the shelf over plain values, as a contract of this layer. -/
import Derived.Test.YtknnooannohflaaGreatDoorPxK
namespace Go.Px
open Go Go.RowKit
set_option maxRecDepth 100000
set_option linter.unusedVariables false

theorem rep_vals {h : Hp} {ρ : Nat → Loc} : ∀ (vs vals : List Value), RepAll h ρ vs (vals.map SV.val) → vs = vals
  | [], [], _ => rfl
  | [], _ :: _, r => by have := r.1; simp at this
  | _ :: _, [], r => by have := r.1; simp at this
  | v :: vs, x :: vals, r => by
    have h0 : v = x := (r.2 0 v (.val x) rfl rfl).val_inv
    rw [h0, rep_vals vs vals ⟨by have := r.1; simpa using this, fun i a s ha hs => r.2 (i + 1) a s (by simpa using ha) (by simpa using hs)⟩]

/-- A function on plain values with one plain value as its result, which writes nothing that was there. -/
theorem ct_of_calls {P : Program} {f : FuncId} {fn : Func} (hf : P.funcs[f]? = some fn) (hb : fn.body.isSome = true) (hn : fn.name ≠ "runtime.NumGoroutine") (vals : List Value) (rv : Value)
    (hc : ∀ (h : Hp) (w : World), HSub h w → Gl h w → Calls P f vals.toArray w fun e w' => e = .returned rv ∧ Below w.heap.size w w') : Ct P f {} (vals.map SV.val) (fun r => r = [.val rv]) := by
  refine ⟨⟨fn, hf, hb, hn⟩, fun hs objs hargs h ρ w vs hH hgl hrep => ?_⟩
  rw [argsH_pureAll] at hargs
  cases hargs
  have e : vs = vals.toArray := by
    have := rep_vals _ _ hrep
    rw [← this]
  subst e
  refine (hc h w hH.sub hgl).mono ?_
  rintro e w' ⟨rfl, hbl⟩
  have hsub : HSub h w' := hsub_carry hH.sub (fun b hb => hbl.block b hb)
  have hold : Holds h ρ [] w' := ⟨hsub, fun id o hm => (by simp at hm), fun i j hi => by obtain ⟨⟨o, e⟩, _⟩ := hi; simp [oget] at e⟩
  have hend : endH {} [rv].length [.val rv] = some ([.val rv], []) := by
    unfold endH
    simp [argsH_pureAll, lentH]
  refine ⟨[rv], h, ρ, [.val rv], [.val rv], [], rfl, rfl, hend, ⟨rfl, fun i v s hv hs => ?_⟩, hold, fun i hi => (by obtain ⟨⟨o, e⟩, _⟩ := hi; simp [oget] at e), ⟨fun i ms hm => (by simp at hm), fun _ _ => rfl⟩, HLe.refl h, fun b _ _ o e => e,
    ⟨hbl.os, hbl.tape, hbl.output, hbl.size, fun k hk _ => hbl.block k hk⟩⟩
  match i, hv, hs with
  | 0, hv, hs =>
    cases hv; cases hs
    exact .pure _ _ (PRep.val _)
  | i + 1, hv, hs => simp at hv

end Go.Px
