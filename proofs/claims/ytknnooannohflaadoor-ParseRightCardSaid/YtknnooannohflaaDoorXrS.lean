/- Layer 28: the reference's Parse, as a contract on plain data. -/
import Derived.Test.YtknnooannohflaaDoorXrR
import Derived.Test.YtknnooannohflaaDoorXrL1
namespace Go.Proofs.YtknnooannohflaaDoor.Prs
open Go Go.Proofs Go.RowKit Go.Px Trm Exp Met
set_option linter.unusedVariables false
set_option maxRecDepth 100000

theorem Znn {P : Program} {f : FuncId} {fn : Func} (hf : P.funcs[f]? = some fn) (hb : fn.body.isSome = true) (hn : (fn.name == "runtime.NumGoroutine") = false) (args : List SV) (Q : List SV → Prop)
  (hc : ∀ (h : Hp) (ρ : Nat → Px.Loc) (w : World) (vs : Array Value), HSub h w → Gl h w → Zgh h ρ vs.toList args → Calls P f vs w fun e w' => ∃ (vr : List Value) (rs : List SV), e = .returned (rets vr) ∧ vr.length = rs.length ∧
   (∀ h' : Hp, HLe h h' → (∀ b, w.heap.size ≤ b → ∀ o, h' b o = w'.cell? ⟨b, o, none⟩) → ∀ (i : Nat) v s, vr[i]? = some v → rs[i]? = some s → PRep h' v s) ∧ Q rs ∧ Below w.heap.size w w') : Ct P f {} args Q := by
 refine ⟨⟨fn, hf, hb, fun e => by rw [e] at hn; simp at hn⟩, fun hs objs hargs h ρ w vs hH hgl hrep => ?_⟩; rw [Zaz] at hargs
 cases hargs
 refine (hc h ρ w vs hH.sub hgl hrep).mono ?_; rintro e w' ⟨vr, rs, rfl, hl, hp, hq, hbl⟩; have hlt : ∀ b o v, h b o = some v → b < w.heap.size := fun b o v e => World.block_lt_of_cell? w ⟨b, o, none⟩ (hH.sub b o v e); have hs0 : HSub h w' := Zeq hH.sub (fun b hb => hbl.block b hb)
 let h' : Hp := fun b o => if b < w.heap.size then h b o else w'.cell? ⟨b, o, none⟩
 have hnew : ∀ b, w.heap.size ≤ b → ∀ o, h' b o = w'.cell? ⟨b, o, none⟩ := fun b hb o => if_neg (by omega); have hle : HLe h h' := fun b o v e => by show (if b < w.heap.size then h b o else _) = _; rw [if_pos (hlt b o v e)]; exact e
 have hsub : HSub h' w' := fun b o v e => by
  by_cases hbs : b < w.heap.size
  ·have : h b o = some v := (by rw [← e]; exact (if_pos hbs).symm); exact hs0 b o v this
  ·rw [hnew b (by omega)] at e; exact e
 have hold : Px.Holds h' ρ [] w' := ⟨hsub, fun id o hm => (by simp at hm), fun i j hi => by obtain ⟨⟨o, e⟩, _⟩ := hi; simp [oget] at e⟩
 have hend : endH {} vr.length rs = some (rs, []) := by unfold endH; rw [hl]; simp [Zaz, lentH]
 exact ⟨vr, h', ρ, rs, rs, [], rfl, hq, hend, ⟨hl, fun i v s hv hs => .pure _ _ (hp h' hle hnew i v s hv hs)⟩, hold, fun i hi => (by obtain ⟨⟨o, e⟩, _⟩ := hi; simp [oget] at e), ⟨fun i ms hm => (by simp at hm), fun _ _ => rfl⟩, hle, fun b hb _ o e => by show (if b < w.heap.size then h b o else _) = _; rw [if_pos hb]; exact e,
  ⟨hbl.os, hbl.tape, hbl.output, hbl.size, fun k hk _ => hbl.block k hk⟩⟩
theorem Zsm (s : ByteArray) (hs : s.size ≤ 60000) : Ct Tryd.prog 10 {} [S s] (fun r => r = rR s.data.toList) := by
 have hlen : s.data.toList.length ≤ 60000 := (by rw [Zdp]; exact hs); have es : s = bA s.data.toList := (by apply Zjr.2; rw [Zbh]); rw [show S s = S (bA s.data.toList) from by rw [← es]]; generalize s.data.toList = T at *; refine Znn Tryd.func10 rfl rfl _ _ fun h ρ w vs hs hg hr => ?_; have hv : vs.toList = [.string (bA T)] := Zmh vs.toList [.string (bA T)] hr; have e : vs = #[.string (bA T)] := (by rw [Zv3 hv]); subst e; refine (Zok T h w hs hg hlen).mono ?_; rintro e w' ⟨hb, hout⟩; unfold rR
 cases hp : Zar T with
 | ok m =>
  rw [hp] at hout; obtain ⟨fv, l, M', rfl, rfl, hm, hext, B, hB, hF⟩ := hout; refine ⟨[fv, .agg #[.int .i64 0, .int .i64 0], .bool true], _, rfl, rfl, fun h' hle hh i v s hv hs => ?_, rfl, hb⟩
  match i, hv, hs with
  | 0, hv, hs =>
   cases hv; cases hs
   refine Zrf (fun g hg o => hh g (by omega) o) (fun b o v e => ?_) hF; by_cases hbs : b < w.heap.size
   ·cases hn : h b o with
    | none => rw [hext b hbs o hn] at e; cases e
    | some u =>
     have := hm b o u hn; rw [e] at this
     cases this
     exact hle b o _ hn
   ·rw [hh b (by omega) o]; exact hF.sub b o v e
  | 1, hv, hs => cases hv; cases hs; exact Zp2 0 0
  | 2, hv, hs => cases hv; cases hs; exact .val _
  | i + 3, hv, hs => simp at hv
 | error q =>
  obtain ⟨n, c⟩ := q; rw [hp] at hout; have he : e = .returned (.tuple #[.slice none 0 0, .agg #[.int .i64 n, .int .i64 c], .bool false]) := hout; subst he; refine ⟨[.slice none 0 0, .agg #[.int .i64 n, .int .i64 c], .bool false], _, rfl, rfl, fun h' hle hh i v s hv hs => ?_, rfl, hb⟩
  match i, hv, hs with
  | 0, hv, hs => cases hv; cases hs; exact .empty none 0 4 0 (by decide) (by simp) (fun _ => rfl)
  | 1, hv, hs => cases hv; cases hs; exact Zp2 n c
  | 2, hv, hs => cases hv; cases hs; exact .val _
  | i + 3, hv, hs => simp at hv
theorem law3_all (s : ByteArray) : Ct Tryd.prog 3 {} [S s] (fun r => r = [B true]) := Zw6 Zsm s
end Go.Proofs.YtknnooannohflaaDoor.Prs
