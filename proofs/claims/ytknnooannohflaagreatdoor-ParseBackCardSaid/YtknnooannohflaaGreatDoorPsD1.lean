import Derived.Test.YtknnooannohflaaGreatDoorMzA
namespace Go.Proofs.YtknnooannohflaaGreatDoor.Met
open Go Go.Px Go.Proofs 
set_option maxRecDepth 100000
set_option linter.unusedVariables false
theorem phas_nf (l : LL) (s : ByteArray) (Q : List SV → Prop) (h : Cl Tryz.prog 92 sP ([SL 2 l, SV.clo 197 ([SV.ref 0 [S s]])]) (fun rs => ∃ b, (rs = [B b]) ∧ (Q [B b]))) : Ct Tryz.prog 164 {} [SL 2 l, S s] Q :=
 fn_of (f := 164) SgT SvT (fun _ => none) Tryz.f164 Tryz.func164 (by kernel_rfl) (by kernel_rfl) h
theorem pcf_nf (l : LL) (s : ByteArray) (Q : List SV → Prop) (h : Cl Tryz.prog 145 sP ([SL 2 l, SV.clo 197 ([SV.ref 0 [S s]])]) (fun rs => ∃ x, (rs = [I x]) ∧ (Q [B (ige x 0)]))) : Ct Tryz.prog 92 {} [SL 2 l, .clo 197 [.ref 0 [S s]]] Q :=
 fn_of (f := 92) SgT SvT (fun _ => none) Tryz.f92 Tryz.func92 (by kernel_rfl) (by kernel_rfl) h
theorem phas1_nf (k v s : ByteArray) (Q : List SV → Prop) (h : Q [B (seq k s)]) : Ct Tryz.prog 197 {} [.agg [S k, S v], .ref 0 [S s]] Q :=
 fn_of (f := 197) SgT SvT (fun _ => none) Tryz.f197 Tryz.func197 (by kernel_rfl) (by kernel_rfl) h
theorem pidx_nf (l : LL) (s : ByteArray) (Q : List SV → Prop) (h : ∃ Inv : Int → Int → Prop, ∃ m : Int → Int → Nat, (Inv 0 0) ∧ (∀ x x1, (Inv x x1) → ifB (ilt x1 (rlen l)) ((((0 : Int) ≤ x1) ∧ (x1 < (rlen l))) ∧ (∃ s1 s2, (rget l x1 = [S s1, S s2]) ∧ (Cl Tryz.prog 197 sP ([SV.agg [S s1, S s2], SV.ref 0 [S s]]) (fun rs => ∃ b, (rs = [B b]) ∧ (ifB b (Q [I x1]) (((Option.some [] : Option (LL)) = Option.some []) ∧ ((Inv x (wadd .i64 x1 1)) ∧ (Nat.le (Nat.succ (m x (wadd .i64 x1 1))) (m x x1))))))))) (Q [I ((-1 : Int))]))) : Ct Tryz.prog 145 {} [SL 2 l, .clo 197 [.ref 0 [S s]]] Q :=
 fn_of (f := 145) SgT SvT (fun _ => none) Tryz.f145 Tryz.func145 (by kernel_rfl) (by kernel_rfl) h
theorem pbucket_nf (ahead : LL) (xn : ByteArray) (xl : LL) (xv : Int) (Q : List SV → Prop) (h : ifB (ilt (wsub .i64 (rlen xl) 1) 0) (Q [B false]) ((((0 : Int) ≤ (wsub .i64 (rlen xl) 1)) ∧ ((wsub .i64 (rlen xl) 1) < (rlen xl))) ∧ (∃ s s1, (rget xl (wsub .i64 (rlen xl) 1) = [S s, S s1]) ∧ ((((0 : Int) ≤ (rlen ahead)) ∧ ((rlen ahead) < ((9 : Int)))) ∧ (((rlen ahead = (0 : Int)) → ifB (bnot (band (seq s (ByteArray.mk (Array.mk [108, 101]))) (band (seq s1 (ByteArray.mk (Array.mk [49]))) true))) (Q [B false]) (ifB (ieq (rlen ahead) 0) (Q [B (ige xv 0)]) ((((0 : Int) ≤ (wsub .i64 (rlen ahead) 1)) ∧ ((wsub .i64 (rlen ahead) 1) < (rlen ahead))) ∧ (∃ s2 l x, (rget ahead (wsub .i64 (rlen ahead) 1) = [S s2, SL 2 l, I x]) ∧ (ifB (bpick (ige xv x) (ieq (rlen xl) (rlen l)) false) ((((0 : Int) ≤ 0) ∧ (((0 : Int) ≤ (wsub .i64 (rlen xl) 1)) ∧ ((wsub .i64 (rlen xl) 1) ≤ (rlen xl)))) ∧ ((((0 : Int) ≤ 0) ∧ (((0 : Int) ≤ (wsub .i64 (rlen xl) 1)) ∧ ((wsub .i64 (rlen xl) 1) ≤ (rlen l)))) ∧ (Cl Tryz.prog 82 sP [SL 2 (rsub xl 0 (wsub .i64 (rlen xl) 1)), SL 2 (rsub l 0 (wsub .i64 (rlen xl) 1))] (fun rs => ∃ b, (rs = [B b]) ∧ (Q [B b]))))) (Q [B false])))))) ∧ (((rlen ahead = (1 : Int)) → ifB (bnot (band (seq s (ByteArray.mk (Array.mk [108, 101]))) (band (seq s1 (ByteArray.mk (Array.mk [50]))) true))) (Q [B false]) (ifB (ieq (rlen ahead) 0) (Q [B (ige xv 0)]) ((((0 : Int) ≤ (wsub .i64 (rlen ahead) 1)) ∧ ((wsub .i64 (rlen ahead) 1) < (rlen ahead))) ∧ (∃ s2 l x, (rget ahead (wsub .i64 (rlen ahead) 1) = [S s2, SL 2 l, I x]) ∧ (ifB (bpick (ige xv x) (ieq (rlen xl) (rlen l)) false) ((((0 : Int) ≤ 0) ∧ (((0 : Int) ≤ (wsub .i64 (rlen xl) 1)) ∧ ((wsub .i64 (rlen xl) 1) ≤ (rlen xl)))) ∧ ((((0 : Int) ≤ 0) ∧ (((0 : Int) ≤ (wsub .i64 (rlen xl) 1)) ∧ ((wsub .i64 (rlen xl) 1) ≤ (rlen l)))) ∧ (Cl Tryz.prog 82 sP [SL 2 (rsub xl 0 (wsub .i64 (rlen xl) 1)), SL 2 (rsub l 0 (wsub .i64 (rlen xl) 1))] (fun rs => ∃ b, (rs = [B b]) ∧ (Q [B b]))))) (Q [B false])))))) ∧ (((rlen ahead = (2 : Int)) → ifB (bnot (band (seq s (ByteArray.mk (Array.mk [108, 101]))) (band (seq s1 (ByteArray.mk (Array.mk [52]))) true))) (Q [B false]) (ifB (ieq (rlen ahead) 0) (Q [B (ige xv 0)]) ((((0 : Int) ≤ (wsub .i64 (rlen ahead) 1)) ∧ ((wsub .i64 (rlen ahead) 1) < (rlen ahead))) ∧ (∃ s2 l x, (rget ahead (wsub .i64 (rlen ahead) 1) = [S s2, SL 2 l, I x]) ∧ (ifB (bpick (ige xv x) (ieq (rlen xl) (rlen l)) false) ((((0 : Int) ≤ 0) ∧ (((0 : Int) ≤ (wsub .i64 (rlen xl) 1)) ∧ ((wsub .i64 (rlen xl) 1) ≤ (rlen xl)))) ∧ ((((0 : Int) ≤ 0) ∧ (((0 : Int) ≤ (wsub .i64 (rlen xl) 1)) ∧ ((wsub .i64 (rlen xl) 1) ≤ (rlen l)))) ∧ (Cl Tryz.prog 82 sP [SL 2 (rsub xl 0 (wsub .i64 (rlen xl) 1)), SL 2 (rsub l 0 (wsub .i64 (rlen xl) 1))] (fun rs => ∃ b, (rs = [B b]) ∧ (Q [B b]))))) (Q [B false])))))) ∧ (((rlen ahead = (3 : Int)) → ifB (bnot (band (seq s (ByteArray.mk (Array.mk [108, 101]))) (band (seq s1 (ByteArray.mk (Array.mk [56]))) true))) (Q [B false]) (ifB (ieq (rlen ahead) 0) (Q [B (ige xv 0)]) ((((0 : Int) ≤ (wsub .i64 (rlen ahead) 1)) ∧ ((wsub .i64 (rlen ahead) 1) < (rlen ahead))) ∧ (∃ s2 l x, (rget ahead (wsub .i64 (rlen ahead) 1) = [S s2, SL 2 l, I x]) ∧ (ifB (bpick (ige xv x) (ieq (rlen xl) (rlen l)) false) ((((0 : Int) ≤ 0) ∧ (((0 : Int) ≤ (wsub .i64 (rlen xl) 1)) ∧ ((wsub .i64 (rlen xl) 1) ≤ (rlen xl)))) ∧ ((((0 : Int) ≤ 0) ∧ (((0 : Int) ≤ (wsub .i64 (rlen xl) 1)) ∧ ((wsub .i64 (rlen xl) 1) ≤ (rlen l)))) ∧ (Cl Tryz.prog 82 sP [SL 2 (rsub xl 0 (wsub .i64 (rlen xl) 1)), SL 2 (rsub l 0 (wsub .i64 (rlen xl) 1))] (fun rs => ∃ b, (rs = [B b]) ∧ (Q [B b]))))) (Q [B false])))))) ∧ (((rlen ahead = (4 : Int)) → ifB (bnot (band (seq s (ByteArray.mk (Array.mk [108, 101]))) (band (seq s1 (ByteArray.mk (Array.mk [49, 54]))) true))) (Q [B false]) (ifB (ieq (rlen ahead) 0) (Q [B (ige xv 0)]) ((((0 : Int) ≤ (wsub .i64 (rlen ahead) 1)) ∧ ((wsub .i64 (rlen ahead) 1) < (rlen ahead))) ∧ (∃ s2 l x, (rget ahead (wsub .i64 (rlen ahead) 1) = [S s2, SL 2 l, I x]) ∧ (ifB (bpick (ige xv x) (ieq (rlen xl) (rlen l)) false) ((((0 : Int) ≤ 0) ∧ (((0 : Int) ≤ (wsub .i64 (rlen xl) 1)) ∧ ((wsub .i64 (rlen xl) 1) ≤ (rlen xl)))) ∧ ((((0 : Int) ≤ 0) ∧ (((0 : Int) ≤ (wsub .i64 (rlen xl) 1)) ∧ ((wsub .i64 (rlen xl) 1) ≤ (rlen l)))) ∧ (Cl Tryz.prog 82 sP [SL 2 (rsub xl 0 (wsub .i64 (rlen xl) 1)), SL 2 (rsub l 0 (wsub .i64 (rlen xl) 1))] (fun rs => ∃ b, (rs = [B b]) ∧ (Q [B b]))))) (Q [B false])))))) ∧ (((rlen ahead = (5 : Int)) → ifB (bnot (band (seq s (ByteArray.mk (Array.mk [108, 101]))) (band (seq s1 (ByteArray.mk (Array.mk [51, 50]))) true))) (Q [B false]) (ifB (ieq (rlen ahead) 0) (Q [B (ige xv 0)]) ((((0 : Int) ≤ (wsub .i64 (rlen ahead) 1)) ∧ ((wsub .i64 (rlen ahead) 1) < (rlen ahead))) ∧ (∃ s2 l x, (rget ahead (wsub .i64 (rlen ahead) 1) = [S s2, SL 2 l, I x]) ∧ (ifB (bpick (ige xv x) (ieq (rlen xl) (rlen l)) false) ((((0 : Int) ≤ 0) ∧ (((0 : Int) ≤ (wsub .i64 (rlen xl) 1)) ∧ ((wsub .i64 (rlen xl) 1) ≤ (rlen xl)))) ∧ ((((0 : Int) ≤ 0) ∧ (((0 : Int) ≤ (wsub .i64 (rlen xl) 1)) ∧ ((wsub .i64 (rlen xl) 1) ≤ (rlen l)))) ∧ (Cl Tryz.prog 82 sP [SL 2 (rsub xl 0 (wsub .i64 (rlen xl) 1)), SL 2 (rsub l 0 (wsub .i64 (rlen xl) 1))] (fun rs => ∃ b, (rs = [B b]) ∧ (Q [B b]))))) (Q [B false])))))) ∧ (((rlen ahead = (6 : Int)) → ifB (bnot (band (seq s (ByteArray.mk (Array.mk [108, 101]))) (band (seq s1 (ByteArray.mk (Array.mk [54, 52]))) true))) (Q [B false]) (ifB (ieq (rlen ahead) 0) (Q [B (ige xv 0)]) ((((0 : Int) ≤ (wsub .i64 (rlen ahead) 1)) ∧ ((wsub .i64 (rlen ahead) 1) < (rlen ahead))) ∧ (∃ s2 l x, (rget ahead (wsub .i64 (rlen ahead) 1) = [S s2, SL 2 l, I x]) ∧ (ifB (bpick (ige xv x) (ieq (rlen xl) (rlen l)) false) ((((0 : Int) ≤ 0) ∧ (((0 : Int) ≤ (wsub .i64 (rlen xl) 1)) ∧ ((wsub .i64 (rlen xl) 1) ≤ (rlen xl)))) ∧ ((((0 : Int) ≤ 0) ∧ (((0 : Int) ≤ (wsub .i64 (rlen xl) 1)) ∧ ((wsub .i64 (rlen xl) 1) ≤ (rlen l)))) ∧ (Cl Tryz.prog 82 sP [SL 2 (rsub xl 0 (wsub .i64 (rlen xl) 1)), SL 2 (rsub l 0 (wsub .i64 (rlen xl) 1))] (fun rs => ∃ b, (rs = [B b]) ∧ (Q [B b]))))) (Q [B false])))))) ∧ (((rlen ahead = (7 : Int)) → ifB (bnot (band (seq s (ByteArray.mk (Array.mk [108, 101]))) (band (seq s1 (ByteArray.mk (Array.mk [49, 50, 56]))) true))) (Q [B false]) (ifB (ieq (rlen ahead) 0) (Q [B (ige xv 0)]) ((((0 : Int) ≤ (wsub .i64 (rlen ahead) 1)) ∧ ((wsub .i64 (rlen ahead) 1) < (rlen ahead))) ∧ (∃ s2 l x, (rget ahead (wsub .i64 (rlen ahead) 1) = [S s2, SL 2 l, I x]) ∧ (ifB (bpick (ige xv x) (ieq (rlen xl) (rlen l)) false) ((((0 : Int) ≤ 0) ∧ (((0 : Int) ≤ (wsub .i64 (rlen xl) 1)) ∧ ((wsub .i64 (rlen xl) 1) ≤ (rlen xl)))) ∧ ((((0 : Int) ≤ 0) ∧ (((0 : Int) ≤ (wsub .i64 (rlen xl) 1)) ∧ ((wsub .i64 (rlen xl) 1) ≤ (rlen l)))) ∧ (Cl Tryz.prog 82 sP [SL 2 (rsub xl 0 (wsub .i64 (rlen xl) 1)), SL 2 (rsub l 0 (wsub .i64 (rlen xl) 1))] (fun rs => ∃ b, (rs = [B b]) ∧ (Q [B b]))))) (Q [B false])))))) ∧ (((rlen ahead = (8 : Int)) → ifB (bnot (band (seq s (ByteArray.mk (Array.mk [108, 101]))) (band (seq s1 (ByteArray.mk (Array.mk [43, 73, 110, 102]))) true))) (Q [B false]) (ifB (ieq (rlen ahead) 0) (Q [B (ige xv 0)]) ((((0 : Int) ≤ (wsub .i64 (rlen ahead) 1)) ∧ ((wsub .i64 (rlen ahead) 1) < (rlen ahead))) ∧ (∃ s2 l x, (rget ahead (wsub .i64 (rlen ahead) 1) = [S s2, SL 2 l, I x]) ∧ (ifB (bpick (ige xv x) (ieq (rlen xl) (rlen l)) false) ((((0 : Int) ≤ 0) ∧ (((0 : Int) ≤ (wsub .i64 (rlen xl) 1)) ∧ ((wsub .i64 (rlen xl) 1) ≤ (rlen xl)))) ∧ ((((0 : Int) ≤ 0) ∧ (((0 : Int) ≤ (wsub .i64 (rlen xl) 1)) ∧ ((wsub .i64 (rlen xl) 1) ≤ (rlen l)))) ∧ (Cl Tryz.prog 82 sP [SL 2 (rsub xl 0 (wsub .i64 (rlen xl) 1)), SL 2 (rsub l 0 (wsub .i64 (rlen xl) 1))] (fun rs => ∃ b, (rs = [B b]) ∧ (Q [B b]))))) (Q [B false])))))) ∧ True))))))))))))) : Ct Tryz.prog 165 {} [SL 3 ahead, sa3 xn xl xv] Q :=
 fn_of (f := 165) SgT SvT (fun _ => none) Tryz.f165 Tryz.func165 (by kernel_rfl) (by kernel_rfl) h
theorem pfollows_nf (n hp : ByteArray) (t : Int) (ss : LL) (xn : ByteArray) (xl : LL) (xv : Int) (Q : List SV → Prop) (h : ifB (ine t 3) (ifB (seq xn n) (Cl Tryz.prog 164 sP ([SL 2 xl, S (ByteArray.mk (Array.mk [108, 101]))]) (fun rs => ∃ b, (rs = [B b]) ∧ (Q [B (bnot b)]))) (Q [B false])) ((((11 : Int) = 0) → False) ∧ ((((0 : Int) ≤ (wsub .i64 (rlen ss) (wrem (rlen ss) 11))) ∧ (((wsub .i64 (rlen ss) (wrem (rlen ss) 11)) ≤ (rlen ss)) ∧ ((rlen ss) ≤ (rlen ss)))) ∧ (ifB (ilt (wrem (rlen ss) 11) 9) (((lsum (slen n) (slen (ByteArray.mk (Array.mk [95, 98, 117, 99, 107, 101, 116])))) ≤ 9223372036854775807) ∧ (ifB (seq xn (scat n (ByteArray.mk (Array.mk [95, 98, 117, 99, 107, 101, 116])))) (Cl Tryz.prog 165 sP ([SV.slice 3 (rsub ss (wsub .i64 (rlen ss) (wrem (rlen ss) 11)) (rlen ss)) 0, SV.agg [S xn, SL 2 xl, I xv]]) (fun rs => ∃ b, (rs = [B b]) ∧ (Q [B b]))) (Q [B false]))) ((((0 : Int) ≤ 0) ∧ (0 < (rlen (rsub ss (wsub .i64 (rlen ss) (wrem (rlen ss) 11)) (rlen ss))))) ∧ (∃ s l x, (rget (rsub ss (wsub .i64 (rlen ss) (wrem (rlen ss) 11)) (rlen ss)) 0 = [S s, SL 2 l, I x]) ∧ ((((0 : Int) ≤ 0) ∧ (((0 : Int) ≤ (wsub .i64 (rlen l) 1)) ∧ ((wsub .i64 (rlen l) 1) ≤ (rlen l)))) ∧ (Cl Tryz.prog 82 sP [SL 2 xl, SL 2 (rsub l 0 (wsub .i64 (rlen l) 1))] (fun rs => ∃ b, (rs = [B b]) ∧ (ifB (bnot b) (Q [B false]) (ifB (ieq (wrem (rlen ss) 11) 9) (((lsum (slen n) (slen (ByteArray.mk (Array.mk [95, 115, 117, 109])))) ≤ 9223372036854775807) ∧ (Q ([B (seq xn (scat n (ByteArray.mk (Array.mk [95, 115, 117, 109]))))]))) (((lsum (slen n) (slen (ByteArray.mk (Array.mk [95, 99, 111, 117, 110, 116])))) ≤ 9223372036854775807) ∧ (ifB (seq xn (scat n (ByteArray.mk (Array.mk [95, 99, 111, 117, 110, 116])))) ((((0 : Int) ≤ 8) ∧ (8 < (rlen (rsub ss (wsub .i64 (rlen ss) (wrem (rlen ss) 11)) (rlen ss))))) ∧ (∃ s1 l1 x1, (rget (rsub ss (wsub .i64 (rlen ss) (wrem (rlen ss) 11)) (rlen ss)) 8 = [S s1, SL 2 l1, I x1]) ∧ (Q [B (ieq xv x1)]))) (Q [B false])))))))))))))) : Ct Tryz.prog 121 {} [fa4 n hp t ss, sa3 xn xl xv] Q :=
 fn_of (f := 121) SgT SvT (fun _ => none) Tryz.f121 Tryz.func121 (by kernel_rfl) (by kernel_rfl) h
end Go.Proofs.YtknnooannohflaaGreatDoor.Met
namespace Go.Proofs.YtknnooannohflaaGreatDoor.Met
open Go Go.Px Go.Proofs Cmp Go.Proofs.YtknnooannohflaaGreatDoor.St
set_option maxRecDepth 100000
set_option linter.unusedVariables false
theorem phas1_fn (p : LaD) (s : ByteArray) : Ct Tryz.prog 197 {} [.agg [S p.1, S p.2], .ref 0 [S s]] (fun r => r = [B (decide (p.1 = s))]) := by
 refine phas1_nf _ _ _ _ ?_
 rw [seq_d]
theorem pidx_fn (l : List LaD) (hl : l.length ≤ 4000000000000000000) (s : ByteArray) : Ct Tryz.prog 145 {} [SL 2 (laR l), .clo 197 [.ref 0 [S s]]] (fun r => ∃ i : Int, r = [I i] ∧ (0 ≤ i ↔ hasB l s = true)) := by
 refine pidx_nf _ _ _ ⟨fun _ i => (0 ≤ i ∧ i ≤ l.length) ∧ hasB (l.take i.toNat) s = false, fun _ i => (l.length - i).toNat, ⟨by omega, by simp [hasB]⟩, ?_⟩
 rintro b i ⟨⟨i0, il⟩, hp⟩
 rw [rlen_eq, List.length_map]
 refine ifB_intro (fun hi => ?_) (fun hi => ?_)
 ·have hi : i < l.length := by simpa using hi
  have hi' : i.toNat < l.length := by omega
  refine ⟨⟨i0, hi⟩, _, _, rget_mapI (fun p : LaD => [S p.1, S p.2]) l i i0 hi, Cl.of (phas1_fn l[i.toNat] s) ⟨_, rfl, ?_⟩⟩
  refine ifB_intro (fun h => ?_) (fun h => ?_)
  ·refine ⟨i, rfl, ⟨fun _ => ?_, fun _ => i0⟩⟩
   exact List.any_eq_true.2 ⟨l[i.toNat], List.getElem_mem hi', h⟩
  ·rw [wadd_i64 (by omega) (by omega)]
   refine ⟨rfl, ⟨by omega, ?_⟩, mlt (by dsimp only; omega)⟩
   rw [show (i + 1).toNat = i.toNat + 1 by omega, List.take_add_one, List.getElem?_eq_getElem hi']
   simp only [hasB, Option.toList_some, List.any_append, List.any_cons, List.any_nil, Bool.or_false, Bool.or_eq_false_iff]
   exact ⟨hp, h⟩
 ·have hi : l.length ≤ i := by simpa using hi
  rw [List.take_of_length_le (by omega)] at hp
  exact ⟨-1, rfl, ⟨fun h => absurd h (by decide), fun h => by rw [hp] at h; cases h⟩⟩
theorem phas_fn (l : List LaD) (hl : l.length ≤ 4000000000000000000) (s : ByteArray) : Ct Tryz.prog 164 {} [SL 2 (laR l), S s] (fun r => r = [B (hasB l s)]) := by
 refine phas_nf _ _ _ (Cl.ofQ (pcf_nf _ _ _ (Cl.ofQ (pidx_fn l hl s) ?_)) (Q := fun r => r = [B (hasB l s)]) ?_)
 ·rintro r ⟨i, rfl, hi⟩
  refine ⟨i, rfl, ?_⟩
  cases h : hasB l s with
  | true => have := hi.2 h; simp [ige, this]
  | false => have : ¬ 0 ≤ i := fun e => by rw [hi.1 e] at h; cases h
             simp [ige, this]
 ·rintro r rfl
  exact ⟨_, rfl, rfl⟩
def bktP (ahead : List SmD) (x : SmD) : Prop := (∃ base, x.ls = base ++ [(leN, bnd ahead.length)]) ∧ (if ahead.length = 0 then 0 ≤ x.v else
 (gat ahead (ahead.length - 1)).v ≤ x.v ∧ x.ls.length = (gat ahead (ahead.length - 1)).ls.length ∧ x.ls.take (x.ls.length - 1) = (gat ahead (ahead.length - 1)).ls.take (x.ls.length - 1))
instance (l : List LaD) (p : LaD) : Decidable (∃ base, l = base ++ [p]) := decidable_of_iff (l.getLast? = some p) List.getLast?_eq_some_iff
instance (ahead : List SmD) (x : SmD) : Decidable (bktP ahead x) := inferInstanceAs (Decidable ((∃ base, _) ∧ (if ahead.length = 0 then _ else _)))
theorem bpf_t {a b : Bool} : bpick a b false = true ↔ a = true ∧ b = true := by cases a <;> simp
theorem rsub_laR (l : List LaD) (n : Nat) (h : n ≤ l.length) : rsub (laR l) 0 (n : Int) = laR (l.take n) := by
 simp [rsub, List.map_take]
theorem buck_in (ahead : List SmD) (x : SmD) (p : LaD) (base : List LaD) (hx : x.ls = base ++ [p]) (c : ByteArray) (hc : bnd ahead.length = c) (hl : x.ls.length ≤ 1000) (ha : ahead.length ≤ 1000) (hal : ∀ y ∈ ahead, y.ls.length ≤ 1000) (Q : List SV → Prop) (hQ : Q [B (decide (bktP ahead x))]) :
  ifB (bnot (band (seq p.1 (ByteArray.mk (Array.mk [108, 101]))) (band (seq p.2 c) true))) (Q [B false]) (ifB (ieq (rlen (smR ahead)) 0) (Q [B (ige x.v 0)]) ((((0 : Int) ≤ (wsub IntKind.i64 (rlen (smR ahead)) 1)) ∧ ((wsub IntKind.i64 (rlen (smR ahead)) 1) < (rlen (smR ahead)))) ∧ (∃ s2 : ByteArray, ∃ l : List (List SV), ∃ y : Int, (rget (smR ahead) (wsub IntKind.i64 (rlen (smR ahead)) 1) = [S s2, SL 2 l, I y]) ∧ (ifB (bpick (ige x.v y) (ieq (rlen (laR x.ls)) (rlen l)) false) ((((0 : Int) ≤ 0) ∧ (((0 : Int) ≤ (wsub IntKind.i64 (rlen (laR x.ls)) 1)) ∧ ((wsub IntKind.i64 (rlen (laR x.ls)) 1) ≤ (rlen (laR x.ls))))) ∧ ((((0 : Int) ≤ 0) ∧ (((0 : Int) ≤ (wsub IntKind.i64 (rlen (laR x.ls)) 1)) ∧ ((wsub IntKind.i64 (rlen (laR x.ls)) 1) ≤ (rlen l)))) ∧ (Cl Tryz.prog 82 sP [SL 2 (rsub (laR x.ls) 0 (wsub IntKind.i64 (rlen (laR x.ls)) 1)), SL 2 (rsub l 0 (wsub IntKind.i64 (rlen (laR x.ls)) 1))] (fun (rs : List SV) => ∃ b : Bool, (rs = [B b]) ∧ (Q [B b]))))) (Q [B false]))))) := by
 have hla : rlen (smR ahead) = (ahead.length : Int) := by rw [rlen_eq, List.length_map]
 have hlx : rlen (laR x.ls) = (x.ls.length : Int) := by rw [rlen_eq, List.length_map]
 have hx1 : 1 ≤ x.ls.length := by rw [hx]; simp
 have hex : (∃ b2, x.ls = b2 ++ [(leN, bnd ahead.length)]) ↔ p = (leN, c) := by
  rw [hc, hx]
  constructor
  ·rintro ⟨b2, e⟩
   have := congrArg List.getLast? e
   simpa using this
  ·rintro rfl; exact ⟨base, rfl⟩
 rw [labB]
 refine ifB_intro (fun h => ?_) (fun h => ?_)
 ·have h : ¬ p = (leN, c) := by simpa only [Bool.not_eq_true', decide_eq_false_iff_not] using h
  have : decide (bktP ahead x) = false := decide_eq_false fun e => h (hex.1 e.1)
  rw [this] at hQ; exact hQ
 ·have h : p = (leN, c) := by simpa only [Bool.not_eq_false', decide_eq_true_eq] using h
  have hb : bktP ahead x ↔ (if ahead.length = 0 then 0 ≤ x.v else (gat ahead (ahead.length - 1)).v ≤ x.v ∧ x.ls.length = (gat ahead (ahead.length - 1)).ls.length ∧ x.ls.take (x.ls.length - 1) = (gat ahead (ahead.length - 1)).ls.take (x.ls.length - 1)) := by
   unfold bktP
   rw [hex]
   simp [h]
  rw [hla]
  refine ifB_intro (fun h0 => ?_) (fun h0 => ?_)
  ·have h0 : ahead.length = 0 := by have : (ahead.length : Int) = 0 := by simpa using h0
                                    omega
   rw [if_pos h0] at hb
   have : decide (bktP ahead x) = ige x.v 0 := by rw [Bool.eq_iff_iff]; simp [hb, ige]
   rw [this] at hQ; exact hQ
  ·have h0 : ¬ ahead.length = 0 := fun e => by rw [e] at h0; simp [ieq] at h0
   rw [if_neg h0] at hb
   rw [wsub_i64 (by omega) (by omega)]
   refine ⟨⟨by omega, by omega⟩, _, _, _, rget_gat ahead _ (by omega) (by omega), ?_⟩
   have ek : ((ahead.length : Int) - 1).toNat = ahead.length - 1 := by omega
   rw [ek]
   have hm := hal _ (gat_mem (g := ahead) (i := ahead.length - 1) (by omega))
   generalize gat ahead (ahead.length - 1) = y at *
   have hly : rlen (laR y.ls) = (y.ls.length : Int) := by rw [rlen_eq, List.length_map]
   rw [hlx, hly]
   refine ifB_intro (fun h1 => ?_) (fun h1 => ?_)
   ·have h1 : y.v ≤ x.v ∧ x.ls.length = y.ls.length := by
     have := bpf_t.1 h1
     have a1 : y.v ≤ x.v := by simpa [ige] using this.1
     have a2 : (x.ls.length : Int) = y.ls.length := by simpa [ieq] using this.2
     exact ⟨a1, by omega⟩
    rw [wsub_i64 (by omega) (by omega)]
    refine ⟨⟨by decide, by omega, by omega⟩, ⟨by decide, by omega, by omega⟩, ?_⟩
    have e1 : ((x.ls.length : Int) - 1) = ((x.ls.length - 1 : Nat) : Int) := by omega
    rw [e1, rsub_laR _ _ (by omega), rsub_laR _ _ (by omega)]
    refine Cl.of (eql_fn _ _ (by rw [List.length_take]; omega)) ⟨_, rfl, ?_⟩
    have : decide (bktP ahead x) = decide (x.ls.take (x.ls.length - 1) = y.ls.take (x.ls.length - 1)) := by
     rw [Bool.eq_iff_iff]; simp [hb, h1.1, h1.2]
    rw [this] at hQ; exact hQ
   ·have : decide (bktP ahead x) = false := decide_eq_false fun e => by
     have e := hb.1 e
     have : bpick (ige x.v y.v) (ieq (x.ls.length : Int) (y.ls.length : Int)) false = true := bpf_t.2 ⟨by simp [ige, e.1], by simp [ieq, e.2.1]⟩
     rw [this] at h1; cases h1
    rw [this] at hQ; exact hQ
theorem bucket_fn (ahead : List SmD) (x : SmD) (ha : ahead.length < 9) (hl : x.ls.length ≤ 1000) (hal : ∀ y ∈ ahead, y.ls.length ≤ 1000) : Ct Tryz.prog 165 {} [SL 3 (smR ahead), .agg x.row] (fun r => r = [B (decide (bktP ahead x))]) := by
 have hla : rlen (smR ahead) = (ahead.length : Int) := by rw [rlen_eq, List.length_map]
 have hlx : rlen (laR x.ls) = (x.ls.length : Int) := by rw [rlen_eq, List.length_map]
 have hw : wsub IntKind.i64 (rlen (laR x.ls)) 1 = (x.ls.length : Int) - 1 := by rw [hlx, wsub_i64 (by omega) (by omega)]
 refine pbucket_nf _ _ _ _ _ (ifB_intro (fun h => ?_) (fun h => ?_))
 ·rw [hw] at h
  have h : (x.ls.length : Int) - 1 < 0 := by simpa [ilt] using h
  have : decide (bktP ahead x) = false := decide_eq_false fun e => by
   obtain ⟨⟨base, e⟩, _⟩ := e
   rw [e] at h; simp at h; omega
  rw [this]
 ·rw [hw] at h
  have h : 0 ≤ (x.ls.length : Int) - 1 := by simpa [ilt] using h
  obtain ⟨base, p, hx⟩ : ∃ base p, x.ls = base ++ [p] := by
   rcases List.eq_nil_or_concat x.ls with e | ⟨b, p, e⟩
   ·rw [e] at h; simp at h
   ·exact ⟨b, p, by simpa using e⟩
  have hg : rget (laR x.ls) (wsub IntKind.i64 (rlen (laR x.ls)) 1) = [S p.1, S p.2] := by
   rw [hw, rget_mapI (fun p : LaD => [S p.1, S p.2]) x.ls _ h (by omega)]
   have : x.ls[((x.ls.length : Int) - 1).toNat]'(by omega) = p := by
    have e : ((x.ls.length : Int) - 1).toNat = base.length := by rw [hx]; simp
    simp only [hx]; simp
   rw [this]
  refine ⟨⟨by rw [hw]; exact h, by rw [hw, hlx]; omega⟩, p.1, p.2, hg, ⟨by rw [hla]; omega, by rw [hla]; omega⟩, fun e => buck_in ahead x p base hx bo0 ((congrArg bnd (show ahead.length = 0 by rw [hla] at e; omega)).trans rfl) hl (by omega) hal (fun r => r = [B (decide (bktP ahead x))]) rfl,
  fun e => buck_in ahead x p base hx bo1 ((congrArg bnd (show ahead.length = 1 by rw [hla] at e; omega)).trans rfl) hl (by omega) hal (fun r => r = [B (decide (bktP ahead x))]) rfl,
  fun e => buck_in ahead x p base hx bo2 ((congrArg bnd (show ahead.length = 2 by rw [hla] at e; omega)).trans rfl) hl (by omega) hal (fun r => r = [B (decide (bktP ahead x))]) rfl,
  fun e => buck_in ahead x p base hx bo3 ((congrArg bnd (show ahead.length = 3 by rw [hla] at e; omega)).trans rfl) hl (by omega) hal (fun r => r = [B (decide (bktP ahead x))]) rfl,
  fun e => buck_in ahead x p base hx bo4 ((congrArg bnd (show ahead.length = 4 by rw [hla] at e; omega)).trans rfl) hl (by omega) hal (fun r => r = [B (decide (bktP ahead x))]) rfl,
  fun e => buck_in ahead x p base hx bo5 ((congrArg bnd (show ahead.length = 5 by rw [hla] at e; omega)).trans rfl) hl (by omega) hal (fun r => r = [B (decide (bktP ahead x))]) rfl,
  fun e => buck_in ahead x p base hx bo6 ((congrArg bnd (show ahead.length = 6 by rw [hla] at e; omega)).trans rfl) hl (by omega) hal (fun r => r = [B (decide (bktP ahead x))]) rfl,
  fun e => buck_in ahead x p base hx bo7 ((congrArg bnd (show ahead.length = 7 by rw [hla] at e; omega)).trans rfl) hl (by omega) hal (fun r => r = [B (decide (bktP ahead x))]) rfl,
  fun e => buck_in ahead x p base hx bo8 ((congrArg bnd (show ahead.length = 8 by rw [hla] at e; omega)).trans rfl) hl (by omega) hal (fun r => r = [B (decide (bktP ahead x))]) rfl, trivial⟩
def folP (f : FaD) (x : SmD) : Prop := if f.ty = 3 then fitG f.nm f.ss x else x.nm = f.nm ∧ hasB x.ls leN = false
instance (n : ByteArray) (l : List SmD) (x : SmD) (k : Nat) : Decidable (fitB n l x k) := inferInstanceAs (Decidable (_ ∧ (∃ base, _) ∧ (if k = 0 then _ else _)))
instance (n : ByteArray) (y x : SmD) (k : Nat) : Decidable (fitT n y x k) := inferInstanceAs (Decidable (_ ∧ (if k = 9 then _ else _)))
instance (n : ByteArray) (l : List SmD) (x : SmD) : Decidable (fitG n l x) := inferInstanceAs (Decidable (if l.length % 11 < 9 then _ else _))
instance (f : FaD) (x : SmD) : Decidable (folP f x) := inferInstanceAs (Decidable (if f.ty = 3 then _ else _))
theorem rem11n (k : Nat) (h : k ≤ 1000) : wrem (k : Int) 11 = ((k % 11 : Nat) : Int) := by
 unfold wrem
 rw [Int.tmod_eq_emod_of_nonneg (by omega)]
 omega
theorem fits_at {f : FaD} (h : fitsUp f f.ss.length) (ht : f.ty = 3) {i : Nat} (hi : i < f.ss.length) : fitG f.nm (f.ss.take i) (gat f.ss i) := by
 have h1 := (h i hi).2.2
 rw [if_pos (show (upto f i).ty = 3 from ht)] at h1
 exact h1
theorem fits_lab {f : FaD} (h : fitsUp f f.ss.length) : ∀ y ∈ f.ss, labP y.ls := by
 intro y hy
 obtain ⟨i, hi, rfl⟩ := List.mem_iff_getElem.1 hy
 have := (h i hi).1
 rwa [gat_get hi] at this
theorem fits_base {f : FaD} (h : fitsUp f f.ss.length) (ht : f.ty = 3) {q : Nat} : ∀ r : Nat, r ≤ 8 → 11 * q + r < f.ss.length → 0 < (gat f.ss (11 * q)).ls.length ∧ (gat f.ss (11 * q + r)).ls.length = (gat f.ss (11 * q)).ls.length ∧ (gat f.ss (11 * q + r)).ls.take ((gat f.ss (11 * q)).ls.length - 1) = (gat f.ss (11 * q)).ls.take ((gat f.ss (11 * q)).ls.length - 1)
 | 0, _, hi => by
  refine ⟨?_, rfl, rfl⟩
  have h1 := fits_at h ht hi
  unfold fitG at h1
  have hl : (f.ss.take (11 * q + 0)).length % 11 = 0 := by rw [List.length_take]; omega
  rw [hl, if_pos (by decide)] at h1
  obtain ⟨_, ⟨base, e⟩, _⟩ := h1
  rw [Nat.add_zero] at e
  rw [e]; simp
 | r + 1, hr, hi => by
  obtain ⟨g0, g1, g2⟩ := fits_base h ht (q := q) r (by omega) (by omega)
  have h1 := fits_at h ht hi
  unfold fitG at h1
  have hlen : (f.ss.take (11 * q + (r + 1))).length = 11 * q + (r + 1) := by rw [List.length_take]; omega
  have hl : (f.ss.take (11 * q + (r + 1))).length % 11 = r + 1 := by rw [hlen]; omega
  rw [hl, if_pos (by omega)] at h1
  obtain ⟨_, _, h2⟩ := h1
  rw [if_neg (by omega), hlen, show 11 * q + (r + 1) - 1 = 11 * q + r by omega, gat_take (by omega)] at h2
  obtain ⟨e1, e2, _⟩ := h2
  refine ⟨g0, by rw [← e1, g1], ?_⟩
  rw [← e1, g1] at e2
  rw [e2, g2]
theorem lesN_one {l base : List LaD} {v : ByteArray} (h : labP l) (e : l = base ++ [(leN, v)]) : lesN l = 1 := by
 have h1 := h.2 base.length (by rw [e]; simp) (by rw [e]; simp)
 have e2 : hasB base leN = false := by
  have h2 := h1.2.2
  simp only [e, List.take_left] at h2
  simpa using h2
 rw [e, lesN_snoc, (lesN_zero _).2 e2]
theorem follows_fn (f : FaD) (x : SmD) (hn : f.nm.size ≤ 1000) (hl : f.ss.length ≤ 1000) (hx : labP x.ls) (hfit : fitsUp f f.ss.length) : Ct Tryz.prog 121 {} [.agg f.row, .agg x.row] (fun r => r = [B (decide (folP f x))]) := by
 have hx8 := hx.1
 have hk := rem11n f.ss.length hl
 have hrl : rlen (smR f.ss) = (f.ss.length : Int) := by rw [rlen_eq, List.length_map]
 have hs : wsub IntKind.i64 (f.ss.length : Int) ((f.ss.length % 11 : Nat) : Int) = ((f.ss.length - f.ss.length % 11 : Nat) : Int) := by rw [wsub_i64 (by omega) (by omega)]; omega
 have hr : rsub (smR f.ss) ((f.ss.length - f.ss.length % 11 : Nat) : Int) (f.ss.length : Int) = smR (f.ss.drop (f.ss.length - f.ss.length % 11)) := by
  simp only [rsub, Int.toNat_natCast]
  rw [List.take_of_length_le (by simp)]
  exact (List.map_drop).symm
 refine pfollows_nf _ _ _ _ _ _ _ _ (ifB_intro (fun h => ?_) (fun h => ?_))
 ·have ht : ¬ f.ty = 3 := by simpa [ine] using h
  have hf : folP f x ↔ x.nm = f.nm ∧ hasB x.ls leN = false := by unfold folP; rw [if_neg ht]
  rw [seq_d]
  refine ifB_intro (fun h1 => ?_) (fun h1 => ?_)
  ·have h1 : x.nm = f.nm := by simpa using h1
   refine Cl.of (phas_fn x.ls (by omega) _) ⟨_, rfl, ?_⟩
   have : decide (folP f x) = bnot (hasB x.ls leN) := by rw [Bool.eq_iff_iff]; simp [hf, h1, bnot]
   rw [this]
  ·have h1 : ¬ x.nm = f.nm := by simpa using h1
   have : decide (folP f x) = false := decide_eq_false fun e => h1 (hf.1 e).1
   rw [this]
 ·have ht : f.ty = 3 := by simpa [ine] using h
  have hf : folP f x ↔ fitG f.nm f.ss x := by unfold folP; rw [if_pos ht]
  simp only [hrl, hk, hs, hr]
  have hla : (f.ss.drop (f.ss.length - f.ss.length % 11)).length = f.ss.length % 11 := by rw [List.length_drop]; omega
  have hga : ∀ i, i < f.ss.length % 11 → gat (f.ss.drop (f.ss.length - f.ss.length % 11)) i = gat f.ss (f.ss.length - f.ss.length % 11 + i) := fun i hi => by
   unfold gat; rw [List.getD_eq_getElem?_getD, List.getD_eq_getElem?_getD, List.getElem?_drop]
  have hal : ∀ y ∈ f.ss.drop (f.ss.length - f.ss.length % 11), y.ls.length ≤ 1000 := fun y hy => by
   have := (fits_lab hfit y (List.mem_of_mem_drop hy)).1
   omega
  have hq : f.ss.length - f.ss.length % 11 = 11 * (f.ss.length / 11) := by omega
  have hrl2 : rlen (smR (f.ss.drop (f.ss.length - f.ss.length % 11))) = ((f.ss.length % 11 : Nat) : Int) := by rw [rlen_eq, List.length_map, hla]
  have hsz : ∀ c : ByteArray, c.size ≤ 10 → lsum (slen f.nm) (slen c) ≤ 9223372036854775807 := fun c hc => by
   show (f.nm.size : Int) + (c.size : Int) ≤ _
   omega
  refine ⟨fun e => absurd e (by decide), ⟨by omega, by omega, Int.le_refl _⟩, ifB_intro (fun h9 => ?_) (fun h9 => ?_)⟩
  ·have h9 : f.ss.length % 11 < 9 := by have : ((f.ss.length % 11 : Nat) : Int) < 9 := by simpa [ilt] using h9
                                        omega
   have hb : fitG f.nm f.ss x ↔ x.nm = f.nm ++ bucN ∧ bktP (f.ss.drop (f.ss.length - f.ss.length % 11)) x := by
    unfold fitG
    rw [if_pos h9]
    unfold fitB bktP
    rw [hla]
    by_cases h0 : f.ss.length % 11 = 0
    ·rw [if_pos h0, if_pos h0]
     constructor
     ·rintro ⟨a, b, c⟩; exact ⟨a, b, c.2⟩
     ·rintro ⟨a, ⟨base, b⟩, c⟩; exact ⟨a, ⟨base, b⟩, lesN_one hx (by rw [b, h0]), c⟩
    ·rw [if_neg h0, if_neg h0, hga _ (by omega), show f.ss.length - f.ss.length % 11 + (f.ss.length % 11 - 1) = f.ss.length - 1 by omega]
     constructor
     ·rintro ⟨a, b, c, d, e⟩; exact ⟨a, b, e, c.symm, d⟩
     ·rintro ⟨a, b, c, d, e⟩; exact ⟨a, b, d.symm, e, c⟩
   refine ⟨hsz _ (by decide), ?_⟩
   rw [seq_d]
   refine ifB_intro (fun h1 => ?_) (fun h1 => ?_)
   ·have h1 : x.nm = f.nm ++ bucN := of_decide_eq_true h1
    refine Cl.of (bucket_fn _ x (by rw [hla]; exact h9) (by omega) hal) ⟨_, rfl, ?_⟩
    have : decide (folP f x) = decide (bktP (f.ss.drop (f.ss.length - f.ss.length % 11)) x) := by rw [Bool.eq_iff_iff]; simp only [decide_eq_true_eq, hf, hb, h1, true_and]
    rw [this]
   ·have h1 : ¬ x.nm = f.nm ++ bucN := of_decide_eq_false h1
    have : decide (folP f x) = false := decide_eq_false fun e => h1 (hb.1 (hf.1 e)).1
    rw [this]
  ·have h9 : 9 ≤ f.ss.length % 11 := by have : (9 : Int) ≤ ((f.ss.length % 11 : Nat) : Int) := by simpa [ilt] using h9
                                        omega
   have hfst := hga 0 (by omega)
   have h8 := hga 8 (by omega)
   rw [Nat.add_zero] at hfst
   obtain ⟨b0, b1, b2⟩ := fits_base hfit ht (q := f.ss.length / 11) 8 (Nat.le_refl _) (by omega)
   rw [← hq] at b0 b1 b2
   have hidx : f.ss.length - 1 - (f.ss.length % 11 - 9) = f.ss.length - f.ss.length % 11 + 8 := by omega
   have hT : fitG f.nm f.ss x ↔ x.ls = (gat f.ss (f.ss.length - f.ss.length % 11)).ls.take ((gat f.ss (f.ss.length - f.ss.length % 11)).ls.length - 1) ∧ (if f.ss.length % 11 = 9 then x.nm = f.nm ++ sumN else x.nm = f.nm ++ couN ∧ x.v = (gat f.ss (f.ss.length - f.ss.length % 11 + 8)).v) := by
    unfold fitG
    rw [if_neg (by omega), hidx]
    unfold fitT
    rw [b1, b2]
   have hlen0 := (fits_lab hfit (gat f.ss (f.ss.length - f.ss.length % 11)) (gat_mem (by omega))).1
   refine ⟨⟨Int.le_refl _, by rw [hrl2]; omega⟩, _, _, _, rget_gat _ 0 (Int.le_refl _) (by rw [hla]; omega), ?_⟩
   rw [show (0 : Int).toNat = 0 from rfl, hfst]
   generalize hy : gat f.ss (f.ss.length - f.ss.length % 11) = y at *
   have hly : rlen (laR y.ls) = (y.ls.length : Int) := by rw [rlen_eq, List.length_map]
   have hw : wsub IntKind.i64 (rlen (laR y.ls)) 1 = ((y.ls.length - 1 : Nat) : Int) := by rw [hly, wsub_i64 (by omega) (by omega)]; omega
   rw [hw, rsub_laR _ _ (by omega)]
   refine ⟨⟨Int.le_refl _, by omega, by rw [hly]; omega⟩, Cl.of (eql_fn _ _ (by omega)) ⟨_, rfl, ifB_intro (fun h1 => ?_) (fun h1 => ?_)⟩⟩
   ·have h1 : ¬ x.ls = y.ls.take (y.ls.length - 1) := by simpa [bnot] using h1
    have : decide (folP f x) = false := decide_eq_false fun e => h1 (hT.1 (hf.1 e)).1
    rw [this]
   ·have h1 : x.ls = y.ls.take (y.ls.length - 1) := by simpa [bnot] using h1
    refine ifB_intro (fun h2 => ?_) (fun h2 => ?_)
    ·have h2 : f.ss.length % 11 = 9 := by have : ((f.ss.length % 11 : Nat) : Int) = 9 := by simpa [ieq] using h2
                                          omega
     refine ⟨hsz _ (by decide), ?_⟩
     rw [if_pos h2] at hT
     rw [seq_d]
     have : decide (folP f x) = decide (x.nm = scat f.nm (ByteArray.mk (Array.mk [95, 115, 117, 109]))) := by
      rw [Bool.eq_iff_iff]; simp only [decide_eq_true_eq, hf, hT, h1, true_and]; rfl
     rw [this]
    ·have h2 : ¬ f.ss.length % 11 = 9 := fun e => by rw [e] at h2; simp [ieq] at h2
     refine ⟨hsz _ (by decide), ?_⟩
     rw [if_neg h2] at hT
     rw [seq_d]
     refine ifB_intro (fun h3 => ?_) (fun h3 => ?_)
     ·have h3 : x.nm = f.nm ++ couN := of_decide_eq_true h3
      refine ⟨⟨by decide, by rw [hrl2]; omega⟩, _, _, _, rget_gat _ 8 (by decide) (by rw [hla]; omega), ?_⟩
      rw [show (8 : Int).toNat = 8 from rfl, h8]
      have : decide (folP f x) = ieq x.v (gat f.ss (f.ss.length - f.ss.length % 11 + 8)).v := by
       rw [Bool.eq_iff_iff]; simp only [decide_eq_true_eq, hf, hT, h1, h3, true_and]; simp [ieq]
      rw [this]
     ·have h3 : ¬ x.nm = f.nm ++ couN := of_decide_eq_false h3
      have : decide (folP f x) = false := decide_eq_false fun e => h3 (hT.1 (hf.1 e)).2.1
      rw [this]
