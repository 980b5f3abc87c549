/- Layer 15: the printed conditions of state's functions and of its reference. -/
import Derived.Test.YtbocfphenkidnaaGreatDoorPxK
import Derived.Test.YtbocfphenkidnaaGreatDoorCmA
import Derived.Test.YtbocfphenkidnaaGreatDoorProg
import Derived.Test.YtbocfphenkidnaaGreatDoorDkA
import Derived.Laws.Externs
namespace Go.Proofs.YtbocfphenkidnaaGreatDoor.St
open Go Go.Px Go.Proofs Cmp
set_option maxRecDepth 100000
set_option linter.unusedVariables false

abbrev st3 (rows : List (List SV)) (s a : Int) : SV := .agg [SL 21 rows, I s, I a]
def SgT : FuncId → Sig := (fun f => {})
def SvT : TypeId → Sig := fun _ => {}
theorem sshort_nf (rows : LL) (q t : Int) (Q : List SV → Prop) (h : ∃ Inv : Bool → Int → Prop, ∃ m : Bool → Int → Nat, (Inv false 0) ∧ (∀ b x, (Inv b x) → ifB (ilt x (rlen rows)) ((((0 : Int) ≤ x) ∧ (x < (rlen rows))) ∧ (∃ s x1, ∃ x2 x3, ∃ x4 l, ∃ x5 x6, ∃ x7 x8, ∃ x9 x10, ∃ x11 x12, ∃ x13 x14, ∃ x15 x16, ∃ x17 x18 x19, (rget rows x = [S s, I x1, I x2, I x3, I x4, SL 2 l, I x5, I x6, I x7, I x8, I x9, I x10, I x11, I x12, I x13, I x14, I x15, I x16, I x17, I x18, I x19]) ∧ (Cl Tryz.prog 68 sP ([SV.agg [S s, I x1, I x2, I x3, I x4, SL 2 l, I x5, I x6, I x7, I x8, I x9, I x10, I x11, I x12, I x13, I x14, I x15, I x16, I x17, I x18, I x19]]) (fun rs => ∃ b1, (rs = [B b1]) ∧ (ifB (bnot b1) (Q [B false]) ((Sm (some ([[SL 21 rows, I q, I t]]))) ∧ ((Inv b (wadd .i64 x 1)) ∧ (Nat.le (Nat.succ (m b (wadd .i64 x 1))) (m b x))))))))) (Q [B (ile (rlen rows) 20)]))) : Ct Tryz.prog 27 {} [st3 rows q t] Q :=
 fn_of (f := 27) SgT SvT (fun _ => none) Tryz.f27 Tryz.func27 (by kernel_rfl) (by kernel_rfl) h

theorem sright_nf (rows : LL) (q t : Int) (Q : List SV → Prop) (h : ifB (bpick (bpick (bpick (bpick (igt (rlen rows) 12) true (ilt q 0)) true (igt q 4294967296)) true (ilt t 0)) true (igt t 1099511627776)) (Q [B false]) (∃ Inv : Bool → Int → Prop, ∃ m : Bool → Int → Nat, (Inv false 0) ∧ (∀ b x, (Inv b x) → ifB (ilt x (rlen rows)) ((((0 : Int) ≤ x) ∧ (x < (rlen rows))) ∧ (∃ s x1, ∃ x2 x3, ∃ x4 l, ∃ x5 x6, ∃ x7 x8, ∃ x9 x10, ∃ x11 x12, ∃ x13 x14, ∃ x15 x16, ∃ x17 x18 x19, (rget rows x = [S s, I x1, I x2, I x3, I x4, SL 2 l, I x5, I x6, I x7, I x8, I x9, I x10, I x11, I x12, I x13, I x14, I x15, I x16, I x17, I x18, I x19]) ∧ (Cl Tryz.prog 98 sP ([SV.agg [S s, I x1, I x2, I x3, I x4, SL 2 l, I x5, I x6, I x7, I x8, I x9, I x10, I x11, I x12, I x13, I x14, I x15, I x16, I x17, I x18, I x19]]) (fun rs => ∃ b1, (rs = [B b1]) ∧ (ifB (bnot b1) (Q [B false]) (ifB (igt x 0) ((((0 : Int) ≤ (wsub .i64 x 1)) ∧ ((wsub .i64 x 1) < (rlen rows))) ∧ (∃ s1 x20, ∃ x21 x22, ∃ x23 l1, ∃ x24 x25, ∃ x26 x27, ∃ x28 x29, ∃ x30 x31, ∃ x32 x33, ∃ x34 x35, ∃ x36 x37 x38, (rget rows (wsub .i64 x 1) = [S s1, I x20, I x21, I x22, I x23, SL 2 l1, I x24, I x25, I x26, I x27, I x28, I x29, I x30, I x31, I x32, I x33, I x34, I x35, I x36, I x37, I x38]) ∧ (ifB (sge s1 s) (Q [B false]) ((Sm (some ([[SL 21 rows, I q, I t]]))) ∧ ((Inv b (wadd .i64 x 1)) ∧ (Nat.le (Nat.succ (m b (wadd .i64 x 1))) (m b x))))))) ((Sm (some ([[SL 21 rows, I q, I t]]))) ∧ ((Inv b (wadd .i64 x 1)) ∧ (Nat.le (Nat.succ (m b (wadd .i64 x 1))) (m b x)))))))))) (Q [B true])))) : Ct Tryz.prog 43 {} [st3 rows q t] Q :=
 fn_of (f := 43) SgT SvT (fun _ => none) Tryz.f43 Tryz.func43 (by kernel_rfl) (by kernel_rfl) h

theorem srright_nf (rows : LL) (q t : Int) (Q : List SV → Prop) (h : ifB (bpick (bpick (bpick (bpick (igt (rlen rows) 12) true (ilt q 0)) true (igt q 4294967296)) true (ilt t 0)) true (igt t 1099511627776)) (Q [B false]) (∃ Inv : Bool → Int → Prop, ∃ m : Bool → Int → Nat, (Inv false 0) ∧ (∀ b x, (Inv b x) → ifB (ilt x (rlen rows)) ((((0 : Int) ≤ x) ∧ (x < (rlen rows))) ∧ (∃ s x1, ∃ x2 x3, ∃ x4 l, ∃ x5 x6, ∃ x7 x8, ∃ x9 x10, ∃ x11 x12, ∃ x13 x14, ∃ x15 x16, ∃ x17 x18 x19, (rget rows x = [S s, I x1, I x2, I x3, I x4, SL 2 l, I x5, I x6, I x7, I x8, I x9, I x10, I x11, I x12, I x13, I x14, I x15, I x16, I x17, I x18, I x19]) ∧ (Cl Tryz.prog 73 sP ([SV.agg [S s, I x1, I x2, I x3, I x4, SL 2 l, I x5, I x6, I x7, I x8, I x9, I x10, I x11, I x12, I x13, I x14, I x15, I x16, I x17, I x18, I x19]]) (fun rs => ∃ b1, (rs = [B b1]) ∧ (ifB (bnot b1) (Q [B false]) (ifB (igt x 0) ((((0 : Int) ≤ x) ∧ (x < (rlen rows))) ∧ (∃ s1 x20, ∃ x21 x22, ∃ x23 l1, ∃ x24 x25, ∃ x26 x27, ∃ x28 x29, ∃ x30 x31, ∃ x32 x33, ∃ x34 x35, ∃ x36 x37 x38, (rget rows x = [S s1, I x20, I x21, I x22, I x23, SL 2 l1, I x24, I x25, I x26, I x27, I x28, I x29, I x30, I x31, I x32, I x33, I x34, I x35, I x36, I x37, I x38]) ∧ ((((0 : Int) ≤ (wsub .i64 x 1)) ∧ ((wsub .i64 x 1) < (rlen rows))) ∧ (∃ s2 x39, ∃ x40 x41, ∃ x42 l2, ∃ x43 x44, ∃ x45 x46, ∃ x47 x48, ∃ x49 x50, ∃ x51 x52, ∃ x53 x54, ∃ x55 x56 x57, (rget rows (wsub .i64 x 1) = [S s2, I x39, I x40, I x41, I x42, SL 2 l2, I x43, I x44, I x45, I x46, I x47, I x48, I x49, I x50, I x51, I x52, I x53, I x54, I x55, I x56, I x57]) ∧ (ifB (sle s1 s2) (Q [B false]) ((Sm (some ([[SL 21 rows, I q, I t]]))) ∧ ((Inv b (wadd .i64 x 1)) ∧ (Nat.le (Nat.succ (m b (wadd .i64 x 1))) (m b x))))))))) ((Sm (some ([[SL 21 rows, I q, I t]]))) ∧ ((Inv b (wadd .i64 x 1)) ∧ (Nat.le (Nat.succ (m b (wadd .i64 x 1))) (m b x)))))))))) (Q [B true])))) : Ct Tryz.prog 33 {} [st3 rows q t] Q :=
 fn_of (f := 33) SgT SvT (fun _ => none) Tryz.f33 Tryz.func33 (by kernel_rfl) (by kernel_rfl) h

theorem srsame_nf (rows : LL) (q t : Int) (rows2 : LL) (q2 t2 : Int) (Q : List SV → Prop) (h : ifB (bpick (bpick (ine q q2) true (ine t t2)) true (ine (rlen rows) (rlen rows2))) (Q [B false]) (∃ Inv : Bool → Int → Prop, ∃ m : Bool → Int → Nat, (Inv false 0) ∧ (∀ b x, (Inv b x) → ifB (ilt x (rlen rows)) ((((0 : Int) ≤ x) ∧ (x < (rlen rows))) ∧ (∃ s x1, ∃ x2 x3, ∃ x4 l, ∃ x5 x6, ∃ x7 x8, ∃ x9 x10, ∃ x11 x12, ∃ x13 x14, ∃ x15 x16, ∃ x17 x18 x19, (rget rows x = [S s, I x1, I x2, I x3, I x4, SL 2 l, I x5, I x6, I x7, I x8, I x9, I x10, I x11, I x12, I x13, I x14, I x15, I x16, I x17, I x18, I x19]) ∧ ((((0 : Int) ≤ x) ∧ (x < (rlen rows2))) ∧ (∃ s1 x20, ∃ x21 x22, ∃ x23 l1, ∃ x24 x25, ∃ x26 x27, ∃ x28 x29, ∃ x30 x31, ∃ x32 x33, ∃ x34 x35, ∃ x36 x37 x38, (rget rows2 x = [S s1, I x20, I x21, I x22, I x23, SL 2 l1, I x24, I x25, I x26, I x27, I x28, I x29, I x30, I x31, I x32, I x33, I x34, I x35, I x36, I x37, I x38]) ∧ (Cl Tryz.prog 81 sP ([SV.agg [S s, I x1, I x2, I x3, I x4, SL 2 l, I x5, I x6, I x7, I x8, I x9, I x10, I x11, I x12, I x13, I x14, I x15, I x16, I x17, I x18, I x19], SV.agg [S s1, I x20, I x21, I x22, I x23, SL 2 l1, I x24, I x25, I x26, I x27, I x28, I x29, I x30, I x31, I x32, I x33, I x34, I x35, I x36, I x37, I x38]]) (fun rs => ∃ b1, (rs = [B b1]) ∧ (ifB (bnot b1) (Q [B false]) ((Sm (some ([[SL 21 rows2, I q2, I t2], [SL 21 rows, I q, I t]]))) ∧ ((Inv b (wadd .i64 x 1)) ∧ (Nat.le (Nat.succ (m b (wadd .i64 x 1))) (m b x))))))))))) (Q [B true])))) : Ct Tryz.prog 37 {} [st3 rows q t, st3 rows2 q2 t2] Q :=
 fn_of (f := 37) SgT SvT (fun _ => none) Tryz.f37 Tryz.func37 (by kernel_rfl) (by kernel_rfl) h


end Go.Proofs.YtbocfphenkidnaaGreatDoor.St

namespace Go.Proofs.YtbocfphenkidnaaGreatDoor.St
open Go Go.Px Go.Proofs Cmp
set_option maxRecDepth 100000
set_option linter.unusedVariables false

abbrev _root_.Go.Proofs.YtbocfphenkidnaaGreatDoor.Cmp.CoD.row (c : CoD) : List SV := [S c.nm, I c.ro, I c.mo, I c.wd, I c.sl, SL 2 (cR c.cl), I c.h0, I c.h1, I c.h2, I c.h3, I c.h4, I c.h5, I c.h6, I c.h7, I c.h8, I c.hs, I c.rm, I c.ha, I c.c0, I c.c1, I c.c2]
abbrev coR (l : List CoD) : List (List SV) := l.map CoD.row
abbrev _root_.Go.Proofs.YtbocfphenkidnaaGreatDoor.Cmp.EvD.row (e : EvD) : List SV := [I e.s, I e.a, I e.k, S e.c, I e.x, I e.y, I e.z]
abbrev eR (l : List EvD) : List (List SV) := l.map EvD.row
deriving instance DecidableEq for CoD
structure StD where
 cs : List CoD
 q : Int
 t : Int
deriving DecidableEq
abbrev StD.sv (d : StD) : SV := .agg [SL 21 (coR d.cs), I d.q, I d.t]

theorem same_iff {c d : CoD} : sameP c d ↔ c = d := by
 constructor
 ·intro h
  cases c; cases d
  simp only [sameP] at h
  simp [h]
 ·rintro rfl; exact sameP_refl c

def StD.P (d : StD) : Prop := (d.cs.length ≤ 12 ∧ 0 ≤ d.q ∧ d.q ≤ 4294967296 ∧ 0 ≤ d.t ∧ d.t ≤ 1099511627776) ∧ (∀ c ∈ d.cs, c.P) ∧ srt CoD.nm d.cs
instance (d : StD) : Decidable d.P := inferInstanceAs (Decidable (_ ∧ _))
def StD.short (d : StD) : Prop := (∀ c ∈ d.cs, c.nm.size ≤ 100 ∧ c.cl.length ≤ 40) ∧ d.cs.length ≤ 20
instance (d : StD) : Decidable d.short := inferInstanceAs (Decidable (_ ∧ _))

def mayS (d : StD) (e : EvD) : Int :=
 if ¬ d.P then 1 else if chkE e ≠ 0 then chkE e else if e.s ≠ d.q + 1 then 1 else if e.a < d.t then 5
 else if e.k = 1 then (if fAt CoD.nm d.cs e.c ≠ -1 then 7 else if d.cs.length = 12 then 9 else 0)
 else if fAt CoD.nm d.cs e.c = -1 then 6 else mayI (d.cs.getD (fAt CoD.nm d.cs e.c).toNat co0) e
def nxtS (d : StD) (e : EvD) : CoD := if e.k = 1 then (newC e.c e.x e.a).1 else tellC (d.cs.getD (fAt CoD.nm d.cs e.c).toNat co0) e
def appS (d : StD) (e : EvD) : StD × Int := if mayS d e ≠ 0 then (d, mayS d e) else (⟨withB CoD.nm d.cs (nxtS d e), e.s, e.a⟩, 0)
def foldS (d : StD) : List EvD → StD × Nat × Int
 | [] => (d, 0, 0)
 | e :: l => if (appS d e).2 ≠ 0 then (d, 0, (appS d e).2) else ((foldS (appS d e).1 l).1, (foldS (appS d e).1 l).2.1 + 1, (foldS (appS d e).1 l).2.2)

theorem adj_srtC {l : List CoD} (h : ∀ i : Nat, ∀ hi : i < l.length, 0 < i → nlt (l[i - 1]'(by omega)).nm l[i].nm) : srt CoD.nm l :=
 srt_adj fun i hi => h (i + 1) hi (by omega)

end Go.Proofs.YtbocfphenkidnaaGreatDoor.St

namespace Go.Proofs.YtbocfphenkidnaaGreatDoor.St
open Go Go.Px Go.Proofs Cmp
set_option maxRecDepth 100000
set_option linter.unusedVariables false

theorem sshort_fn (d : StD) (hl : d.cs.length ≤ 9223372036854775807) : Ct Tryz.prog 27 {} [d.sv] (fun r => r = [B (decide d.short)]) := by
 refine sshort_nf _ _ _ _ ⟨fun _ x => ∃ i : Nat, x = i ∧ i ≤ d.cs.length ∧ ∀ j : Nat, ∀ hj : j < d.cs.length, j < i → d.cs[j].nm.size ≤ 100 ∧ d.cs[j].cl.length ≤ 40, fun _ x => d.cs.length - x.toNat, ⟨0, rfl, by omega, fun j _ hj => by omega⟩, ?_⟩
 rintro b _ ⟨i, rfl, hi, hall⟩
 refine ifB_intro (fun h => ?_) (fun h => ?_)
 ·have h : i < d.cs.length := by simpa using h
  rw [waddN _ (by omega)]
  refine ⟨⟨by omega, by simpa using h⟩, _, _, _, _, _, _, _, _, _, _, _, _, _, _, _, _, _, _, _, _, _, rget_map _ _ _ h, Cl.of (qshort_fn d.cs[i]) ⟨_, rfl, ifB_intro (fun z => ?_) (fun z => ⟨rfl, ⟨i + 1, rfl, by omega, fun j hj hjk => ?_⟩, stepL (by simp; omega)⟩)⟩⟩
  ·have : ¬ d.short := fun p => by
    have := p.1 _ (List.getElem_mem h)
    rw [decide_eq_true this] at z; cases z
   simp [this]
  ·by_cases e : j = i
   ·subst e; simpa using z
   ·exact hall j hj (by omega)
 ·have h : ¬ i < d.cs.length := by simpa using h
  have : d.short ↔ d.cs.length ≤ 20 := ⟨fun p => p.2, fun p => ⟨fun c hc => by
   obtain ⟨j, hj, rfl⟩ := List.mem_iff_getElem.1 hc
   exact hall j hj (by omega), p⟩⟩
  simp [this]
  omega

theorem sright_fn (d : StD) : Ct Tryz.prog 43 {} [d.sv] (fun r => r = [B (decide d.P)]) := by
 have no : ¬ d.P → [B false] = [B (decide d.P)] := fun h => by simp [h]
 refine sright_nf _ _ _ _ (ifB_intro (fun h1 => no (fun p => ?_)) (fun h1 => ?_))
 ·have := p.1; simp at h1; omega
 ·simp at h1
  have hl : d.cs.length ≤ 12 := by omega
  refine ⟨fun _ y => ∃ i : Nat, y = i ∧ i ≤ d.cs.length ∧ ∀ j : Nat, ∀ hj : j < d.cs.length, j < i → d.cs[j].P ∧ (0 < j → nlt (d.cs[j - 1]'(by omega)).nm d.cs[j].nm), fun _ y => d.cs.length - y.toNat, ⟨0, rfl, by omega, fun j _ hj => by omega⟩, ?_⟩
  rintro b _ ⟨i, rfl, hi, hall⟩
  refine ifB_intro (fun h2 => ?_) (fun h2 => ?_)
  ·have h2 : i < d.cs.length := by simpa using h2
   have st : Nat.le (Nat.succ (d.cs.length - ((i + 1 : Nat) : Int).toNat)) (d.cs.length - ((i : Nat) : Int).toNat) := stepL (by simp; omega)
   have nxt : d.cs[i].P → (0 < i → nlt (d.cs[i - 1]'(by omega)).nm d.cs[i].nm) → ∃ k : Nat, ((i + 1 : Nat) : Int) = k ∧ k ≤ d.cs.length ∧ ∀ j : Nat, ∀ hj : j < d.cs.length, j < k → d.cs[j].P ∧ (0 < j → nlt (d.cs[j - 1]'(by omega)).nm d.cs[j].nm) := fun a b =>
    ⟨i + 1, rfl, by omega, fun j hj hjk => by
     by_cases e : j = i
     ·subst e; exact ⟨a, b⟩
     ·exact hall j hj (by omega)⟩
   rw [waddN _ (by omega)]
   refine ⟨⟨by omega, by simpa using h2⟩, _, _, _, _, _, _, _, _, _, _, _, _, _, _, _, _, _, _, _, _, _, rget_map _ _ _ h2, Cl.of (pright_fn d.cs[i]) ⟨_, rfl, ifB_intro (fun h3 => no (fun p => ?_)) (fun h3 => ?_)⟩⟩
   ·rw [decide_eq_true (p.2.1 _ (List.getElem_mem h2))] at h3; cases h3
   ·have h3 : d.cs[i].P := by simpa using h3
    refine ifB_intro (fun h4 => ?_) (fun h4 => ?_)
    ·have h4 : 0 < i := by simpa using h4
     have w : wsub .i64 (i : Int) 1 = ((i - 1 : Nat) : Int) := by rw [wsub_i64 (by omega) (by omega)]; omega
     rw [w]
     have hi1 : i - 1 < d.cs.length := by omega
     refine ⟨⟨by omega, by simp; omega⟩, _, _, _, _, _, _, _, _, _, _, _, _, _, _, _, _, _, _, _, _, _, rget_map _ _ _ hi1, ?_⟩
     rw [sge_d]
     refine ifB_intro (fun h5 => no (fun p => ?_)) (fun h5 => ⟨rfl, nxt h3 (fun _ => ?_), st⟩)
     ·simp at h5
      exact h5 (srt_get p.2.2 (by omega) h2)
     ·simp at h5; exact h5
    ·simp at h4
     exact ⟨rfl, nxt h3 (fun _ => by omega), st⟩
  ·have h2 : ¬ i < d.cs.length := by simpa using h2
   have hs : srt CoD.nm d.cs := adj_srtC fun j hj => (hall j hj (by omega)).2
   have hn : ∀ f ∈ d.cs, f.P := fun f hf => by
    obtain ⟨j, hj, rfl⟩ := List.mem_iff_getElem.1 hf
    exact (hall j hj (by omega)).1
   rw [decide_eq_true (show d.P from ⟨⟨hl, by omega, by omega, by omega, by omega⟩, hn, hs⟩)]

theorem srright_fn (d : StD) : Ct Tryz.prog 33 {} [d.sv] (fun r => r = [B (decide d.P)]) := by
 have no : ¬ d.P → [B false] = [B (decide d.P)] := fun h => by simp [h]
 refine srright_nf _ _ _ _ (ifB_intro (fun h1 => no (fun p => ?_)) (fun h1 => ?_))
 ·have := p.1; simp at h1; omega
 ·simp at h1
  have hl : d.cs.length ≤ 12 := by omega
  refine ⟨fun _ y => ∃ i : Nat, y = i ∧ i ≤ d.cs.length ∧ ∀ j : Nat, ∀ hj : j < d.cs.length, j < i → d.cs[j].P ∧ (0 < j → nlt (d.cs[j - 1]'(by omega)).nm d.cs[j].nm), fun _ y => d.cs.length - y.toNat, ⟨0, rfl, by omega, fun j _ hj => by omega⟩, ?_⟩
  rintro b _ ⟨i, rfl, hi, hall⟩
  refine ifB_intro (fun h2 => ?_) (fun h2 => ?_)
  ·have h2 : i < d.cs.length := by simpa using h2
   have st : Nat.le (Nat.succ (d.cs.length - ((i + 1 : Nat) : Int).toNat)) (d.cs.length - ((i : Nat) : Int).toNat) := stepL (by simp; omega)
   have nxt : d.cs[i].P → (0 < i → nlt (d.cs[i - 1]'(by omega)).nm d.cs[i].nm) → ∃ k : Nat, ((i + 1 : Nat) : Int) = k ∧ k ≤ d.cs.length ∧ ∀ j : Nat, ∀ hj : j < d.cs.length, j < k → d.cs[j].P ∧ (0 < j → nlt (d.cs[j - 1]'(by omega)).nm d.cs[j].nm) := fun a b =>
    ⟨i + 1, rfl, by omega, fun j hj hjk => by
     by_cases e : j = i
     ·subst e; exact ⟨a, b⟩
     ·exact hall j hj (by omega)⟩
   rw [waddN _ (by omega)]
   have hr : (0 : Int) ≤ (i : Nat) ∧ ((i : Nat) : Int) < rlen (coR d.cs) := ⟨by omega, by simpa using h2⟩
   refine ⟨hr, _, _, _, _, _, _, _, _, _, _, _, _, _, _, _, _, _, _, _, _, _, rget_map _ _ _ h2, Cl.of (qright_fn d.cs[i]) ⟨_, rfl, ifB_intro (fun h3 => no (fun p => ?_)) (fun h3 => ?_)⟩⟩
   ·rw [decide_eq_true (p.2.1 _ (List.getElem_mem h2))] at h3; cases h3
   ·have h3 : d.cs[i].P := by simpa using h3
    refine ifB_intro (fun h4 => ?_) (fun h4 => ?_)
    ·have h4 : 0 < i := by simpa using h4
     have w : wsub .i64 (i : Int) 1 = ((i - 1 : Nat) : Int) := by rw [wsub_i64 (by omega) (by omega)]; omega
     rw [w]
     have hi1 : i - 1 < d.cs.length := by omega
     refine ⟨hr, _, _, _, _, _, _, _, _, _, _, _, _, _, _, _, _, _, _, _, _, _, rget_map _ _ _ h2, ⟨by omega, by simp; omega⟩, _, _, _, _, _, _, _, _, _, _, _, _, _, _, _, _, _, _, _, _, _, rget_map _ _ _ hi1, ?_⟩
     rw [sle_d]
     refine ifB_intro (fun h5 => no (fun p => ?_)) (fun h5 => ⟨rfl, nxt h3 (fun _ => ?_), st⟩)
     ·simp at h5
      exact h5 (srt_get p.2.2 (by omega) h2)
     ·simp at h5; exact h5
    ·simp at h4
     exact ⟨rfl, nxt h3 (fun _ => by omega), st⟩
  ·have h2 : ¬ i < d.cs.length := by simpa using h2
   have hs : srt CoD.nm d.cs := adj_srtC fun j hj => (hall j hj (by omega)).2
   have hn : ∀ f ∈ d.cs, f.P := fun f hf => by
    obtain ⟨j, hj, rfl⟩ := List.mem_iff_getElem.1 hf
    exact (hall j hj (by omega)).1
   rw [decide_eq_true (show d.P from ⟨⟨hl, by omega, by omega, by omega, by omega⟩, hn, hs⟩)]

def cells40 (d : StD) : Prop := ∀ c ∈ d.cs, c.cl.length ≤ 1000000

theorem srsame_fn (a b : StD) (ha : a.cs.length ≤ 9223372036854775807) (hc : ∀ c ∈ a.cs, c.cl.length ≤ 1000000) : Ct Tryz.prog 37 {} [a.sv, b.sv] (fun r => r = [B (decide (a = b))]) := by
 have no : ¬ a = b → [B false] = [B (decide (a = b))] := fun h => by simp [h]
 refine srsame_nf _ _ _ _ _ _ _ (ifB_intro (fun h => no (fun e => by subst e; simp at h)) (fun h => ?_))
 have h0 : (a.q = b.q ∧ a.t = b.t) ∧ a.cs.length = b.cs.length := by simp at h; omega
 have hlen := h0.2
 refine ⟨fun _ x => ∃ i : Nat, x = i ∧ i ≤ a.cs.length ∧ ∀ j : Nat, ∀ hj : j < a.cs.length, j < i → a.cs[j] = b.cs[j]'(by omega), fun _ x => a.cs.length - x.toNat, ⟨0, rfl, by omega, fun j _ hj => by omega⟩, ?_⟩
 rintro _ _ ⟨i, rfl, hi, hall⟩
 refine ifB_intro (fun h => ?_) (fun h => ?_)
 ·have h : i < a.cs.length := by simpa using h
  have h' : i < b.cs.length := by omega
  rw [waddN _ (by omega)]
  refine ⟨⟨by omega, by simpa using h⟩, _, _, _, _, _, _, _, _, _, _, _, _, _, _, _, _, _, _, _, _, _, rget_map _ _ _ h, ⟨by omega, by simpa using h'⟩, _, _, _, _, _, _, _, _, _, _, _, _, _, _, _, _, _, _, _, _, _, rget_map _ _ _ h', Cl.of (qsame_fn a.cs[i] b.cs[i] (hc _ (List.getElem_mem h))) ⟨_, rfl, ifB_intro (fun z => no (fun e => ?_)) (fun z => ⟨rfl, ⟨i + 1, rfl, by omega, fun j hj hjk => ?_⟩, stepL (by simp; omega)⟩)⟩⟩
  ·have : sameP a.cs[i] b.cs[i] := same_iff.2 (by subst e; rfl)
   rw [decide_eq_true this] at z; cases z
  ·by_cases e : j = i
   ·subst e; exact same_iff.1 (by simpa using z)
   ·exact hall j hj (by omega)
 ·have h : ¬ i < a.cs.length := by simpa using h
  have := List.ext_getElem hlen fun j h1 h2 => hall j h1 (by omega)
  rw [decide_eq_true]
  cases a; cases b; simp_all
end Go.Proofs.YtbocfphenkidnaaGreatDoor.St

namespace Go.Proofs.YtbocfphenkidnaaGreatDoor.St
open Go Go.Px Go.Proofs Cmp
set_option maxRecDepth 100000
set_option linter.unusedVariables false

structure MayS (d : StD) (e : EvD) : Prop where
 p : d.P
 chk : chkE e = 0
 sq : e.s = d.q + 1
 tm : d.t ≤ e.a
 new : e.k = 1 → fAt CoD.nm d.cs e.c = -1 ∧ d.cs.length < 12
 old : e.k ≠ 1 → ∃ i : Nat, ∃ h : i < d.cs.length, fAt CoD.nm d.cs e.c = i ∧ d.cs[i].nm = e.c ∧ mayI d.cs[i] e = 0
end Go.Proofs.YtbocfphenkidnaaGreatDoor.St

namespace Go.Proofs.YtbocfphenkidnaaGreatDoor.St
open Go Go.Px Go.Proofs Cmp
set_option maxRecDepth 100000
set_option linter.unusedVariables false

end Go.Proofs.YtbocfphenkidnaaGreatDoor.St

namespace Go.Proofs.YtbocfphenkidnaaGreatDoor.St
open Go Go.Px Go.Proofs Cmp
set_option maxRecDepth 100000
set_option linter.unusedVariables false

def lim (d : StD) : Prop := d.cs.length ≤ 20 ∧ ∀ c ∈ d.cs, c.cl.length ≤ 40
instance (d : StD) : Decidable (lim d) := inferInstanceAs (Decidable (_ ∧ _))

def goes (d : StD) (l : List EvD) (i : Nat) (d' : StD) : Prop := foldS d l = ((foldS d' (l.drop i)).1, i + (foldS d' (l.drop i)).2.1, (foldS d' (l.drop i)).2.2)
def awE : List EvD := [⟨1, 3, 1, ⟨#[98]⟩, 1, 0, 0⟩, ⟨2, 3, 1, ⟨#[97]⟩, 2, 0, 0⟩, ⟨3, 4, 5, ⟨#[97]⟩, 1, 0, 0⟩, ⟨4, 4, 5, ⟨#[98]⟩, 0, 0, 0⟩]
def awF : StD × Nat × Int := foldS ⟨[], 0, 0⟩ awE

end Go.Proofs.YtbocfphenkidnaaGreatDoor.St
