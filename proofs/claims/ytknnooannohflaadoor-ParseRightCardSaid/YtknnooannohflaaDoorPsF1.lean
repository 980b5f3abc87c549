/- Layer 28: what own memory holds, as plain data; the listed variables stay. -/
import Derived.Test.YtknnooannohflaaDoorPrM1
import Derived.Test.YtknnooannohflaaDoorPsD1
import Derived.Test.YtknnooannohflaaDoorTrmDz
namespace Go.Proofs.YtknnooannohflaaDoor.Prs
open Go Go.Proofs Go.RowKit Go.Px Trm Exp Met
set_option linter.unusedVariables false

def hAll (w : World) : Hp := fun b o => w.cell? ⟨b, o, none⟩
theorem Zcx (w : World) : HSub (hAll w) w := fun b o v h => h
def GlW (w : World) : Prop := Gl (hAll w) w
theorem Zi0 : ∀ p ∈ Zbz, p.1 < 3 ∧ ∀ c ∈ p.2, ∃ u, c = .val u := by
 intro p hp; simp only [Zbz, List.mem_cons, List.not_mem_nil, or_false] at hp; have hp2 : p.2 = bnds ∧ p.1 < 3 := by subst hp; exact ⟨rfl, by decide⟩
 refine ⟨hp2.2, fun c hc => ?_⟩; rw [hp2.1] at hc; simp only [bnds, List.mem_cons, List.not_mem_nil, or_false] at hc
 rcases hc with rfl | rfl | rfl | rfl | rfl | rfl | rfl | rfl | rfl <;> exact ⟨_, rfl⟩
theorem Zqd {h h' : Hp} {v : Value} {u : Value} (r : PRep h v (.val u)) : PRep h' v (.val u) := by
 have : v = u := (Rep.pure (ρ := fun _ => noLoc) _ _ r).val_inv; subst this; exact .val _
theorem GlW.kept {w w' : World} (h : GlW w) (hk : ∀ k, k < 3 → w'.heap[k]? = w.heap[k]?) : GlW w' := by
 refine ⟨fun p hp i c hc => ?_, fun p hp => ?_⟩
 ·obtain ⟨hlt, hv⟩ := Zi0 p hp; obtain ⟨u, rfl⟩ := hv c (List.mem_of_getElem? hc); obtain ⟨v, h1, h2⟩ := h.cells p hp i _ hc; exact ⟨v, (World.cell?_of_block (w := w) (a := ⟨p.1, i, none⟩) (hk p.1 hlt)).trans h1, Zqd h2⟩
 ·obtain ⟨h1, cs, t, fz, h2, h3⟩ := h.size p hp; exact ⟨h1, cs, t, fz, (hk p.1 (Zi0 p hp).1).trans h2, h3⟩
theorem GlW.of {h : Hp} {w : World} (hs : HSub h w) (hg : Gl h w) : GlW w := by
 refine ⟨fun p hp i c hc => ?_, hg.size⟩; obtain ⟨u, rfl⟩ := (Zi0 p hp).2 c (List.mem_of_getElem? hc); obtain ⟨v, h1, h2⟩ := hg.cells p hp i _ hc; exact ⟨v, hs _ _ _ h1, Zqd h2⟩
theorem GlW.low {w : World} (h : GlW w) : 3 ≤ w.heap.size := by
 obtain ⟨_, cs, t, fz, h2, _⟩ := h.size (2, bnds) (by simp [Zbz]); have := (Array.getElem?_eq_some_iff.1 h2).1; exact this

theorem Zh1 {α : Type} {f : α → List Value} {k : Nat} : ∀ {l : List α}, (∀ a ∈ l, (f a).length = k) → ∀ (i j : Nat) (a : α), j < k → l[i]? = some a → (l.flatMap f)[i * k + j]? = (f a)[j]?
 | [], _, i, j, a, _, h => by cases h
 | b :: l, hl, i, j, a, hj, h => by
  have hb := hl b (by simp); rw [List.flatMap_cons]
  cases i with
  | zero => simp only [List.getElem?_cons_zero, Option.some.injEq] at h; subst h; rw [Nat.zero_mul, Nat.zero_add, List.getElem?_append_left (by omega)]
  | succ i => simp only [List.getElem?_cons_succ] at h; rw [List.getElem?_append_right (by rw [hb, Nat.succ_mul]; omega), hb, show (i + 1) * k + j - k = i * k + j by rw [Nat.succ_mul]; omega]; exact Zh1 (fun a ha => hl a (by simp [ha])) i j a hj h
theorem Zfk {h : Hp} {w : World} {base : Nat} {e : TypeId} {size : Nat} {v : Value} {n : Nat} {xs : List Value} (hh : ∀ g, base ≤ g → ∀ o, h g o = w.cell? ⟨g, o, none⟩) (ho : w.ownsRow base e size v n xs) (rows : List (List SV)) (hs : 0 < size) (hlen : rows.length = n) (hrow : ∀ r ∈ rows, r.length = size)
  (hc : ∀ (i : Nat) r (j : Nat) c, rows[i]? = some r → r[j]? = some c → ∃ u, xs[i * size + j]? = some u ∧ PRep h u c ∧ u.oneCell' = true) : PRep h v (.slice size rows 0) := by
 rcases ho.2 with ⟨rfl, h0⟩ | ⟨g, cap, cur, rfl, hb, hg, hnc, hm, hcs, htake⟩
 ·have : rows = [] := List.length_eq_zero_iff.1 (hlen.trans h0); subst this; exact .empty none 0 size 0 (by decide) (by simp) (fun _ => rfl)
 ·subst hlen
  have key : ∀ (i : Nat) r (j : Nat) c, rows[i]? = some r → r[j]? = some c → ∃ u, h g (0 + i * size + j) = some u ∧ PRep h u c ∧ u.oneCell' = true := fun i r j c hi hj => by
   obtain ⟨u, h1, h2, h3⟩ := hc i r j c hi hj; refine ⟨u, ?_, h2, h3⟩; have hjs : j < size := by rw [← hrow r (List.mem_of_getElem? hi)]; exact (List.getElem?_eq_some_iff.1 hj).1
   have his : i < rows.length := (List.getElem?_eq_some_iff.1 hi).1; have hlt : i * size + j < rows.length * size := (by have : (i + 1) * size ≤ rows.length * size := Nat.mul_le_mul_right _ his; rw [Nat.succ_mul] at this; omega); rw [hh g hb, Nat.zero_add, ho.cellAt _ hlt, h1]
  refine .slice g 0 cap size rows 0 (fun i j => (h g (0 + i * size + j)).getD undef) hs (fun i r hi => hrow r (List.mem_of_getElem? hi)) (fun i r j c hi hj => ?_) (fun i r j c hi hj => ?_) (fun i r j c hi hj => ?_) (by decide) (by simp) hnc
  ·obtain ⟨u, h1, _⟩ := key i r j c hi hj; rw [h1]; rfl
  ·obtain ⟨u, h1, h2, _⟩ := key i r j c hi hj; rw [h1]; exact h2
  ·obtain ⟨u, h1, _, h3⟩ := key i r j c hi hj; rw [h1]; exact h3
theorem Zlh {h : Hp} {w : World} {base : Nat} {v : Value} {ls : List LaD} (hh : ∀ g, base ≤ g → ∀ o, h g o = w.cell? ⟨g, o, none⟩) (ho : w.ownsRow base 65 2 v ls.length (Za9 ls)) : PRep h v (SL 2 (laR ls)) := by
 refine Zfk hh ho (laR ls) (by decide) (by simp) (fun r hr => by obtain ⟨p, _, rfl⟩ := List.mem_map.1 hr; rfl) fun i r j c hi hj => ?_; obtain ⟨p, hp, rfl⟩ : ∃ p, ls[i]? = some p ∧ r = [S p.1, S p.2] := by simp only [laR, List.getElem?_map, Option.map_eq_some_iff] at hi; obtain ⟨p, h1, h2⟩ := hi; exact ⟨p, h1, h2.symm⟩
 have hj2 : j < 2 := (List.getElem?_eq_some_iff.1 hj).1; have hat := Zh1 (f := fun p : LaD => [Value.string p.1, .string p.2]) (k := 2) (l := ls) (fun _ _ => rfl) i j p hj2 hp; have hat' : (Za9 ls)[i * 2 + j]? = _ := hat
 match j, hj with
 | 0, hj => cases hj; exact ⟨_, hat', .val _, rfl⟩
 | 1, hj => cases hj; exact ⟨_, hat', .val _, rfl⟩
theorem Zli {h : Hp} {w : World} {B : Nat} {v : Value} {q : List (SmD × Value)} (hh : ∀ g, B ≤ g → ∀ o, h g o = w.cell? ⟨g, o, none⟩) (ho : SamM w B v q) : PRep h v (SL 3 (smR (q.map (·.1)))) := by
 refine Zfk hh ho.row (smR (q.map (·.1))) (by decide) (by simp) (fun r hr => by obtain ⟨p, _, rfl⟩ := List.mem_map.1 hr; rfl) fun i r j c hi hj => ?_; obtain ⟨p, hp, rfl⟩ : ∃ p, q[i]? = some p ∧ r = SmD.row p.1 := by simp only [smR, List.map_map, List.getElem?_map, Option.map_eq_some_iff] at hi; obtain ⟨p, h1, h2⟩ := hi; exact ⟨p, h1, h2.symm⟩
 have hj2 : j < 3 := (List.getElem?_eq_some_iff.1 hj).1; have hat := Zh1 (f := fun p : SmD × Value => [Value.string p.1.nm, p.2, .int .i64 p.1.v]) (k := 3) (l := q) (fun _ _ => rfl) i j p hj2 hp; have hat' : (Zdb q)[i * 3 + j]? = _ := hat; have hl := ho.lab p (List.mem_of_getElem? hp)
 match j, hj with
 | 0, hj => cases hj; exact ⟨_, hat', .val _, rfl⟩
 | 1, hj =>
  cases hj
  refine ⟨_, hat', Zlh hh hl, ?_⟩; obtain ⟨a, n, c, e⟩ := Za5 hl; show p.2.oneCell' = true; rw [e]; rfl
 | 2, hj => cases hj; exact ⟨_, hat', .val _, rfl⟩
theorem Zrk {h : Hp} {w : World} {B : Nat} {v : Value} {q : List (FaD × Value)} (hh : ∀ g, B ≤ g → ∀ o, h g o = w.cell? ⟨g, o, none⟩) (ho : FamM w B v q) : PRep h v (SL 4 (faR (fsts q))) := by
 refine Zfk hh ho.row (faR (fsts q)) (by decide) (by simp [fsts]) (fun r hr => by obtain ⟨p, _, rfl⟩ := List.mem_map.1 hr; rfl) fun i r j c hi hj => ?_; obtain ⟨p, hp, rfl⟩ : ∃ p, q[i]? = some p ∧ r = FaD.row p.1 := by simp only [faR, fsts, List.map_map, List.getElem?_map, Option.map_eq_some_iff] at hi; obtain ⟨p, h1, h2⟩ := hi; exact ⟨p, h1, h2.symm⟩
 have hj2 : j < 4 := (List.getElem?_eq_some_iff.1 hj).1; have hat := Zh1 (f := fun p : FaD × Value => [Value.string p.1.nm, .string p.1.hp, .int .i64 p.1.ty, p.2]) (k := 4) (l := q) (fun _ _ => rfl) i j p hj2 hp; have hat' : (Za4 q)[i * 4 + j]? = _ := hat; obtain ⟨l, e, hl⟩ := ho.sam p (List.mem_of_getElem? hp)
 match j, hj with
 | 0, hj => cases hj; exact ⟨_, hat', .val _, rfl⟩
 | 1, hj => cases hj; exact ⟨_, hat', .val _, rfl⟩
 | 2, hj => cases hj; exact ⟨_, hat', .val _, rfl⟩
 | 3, hj =>
  cases hj
  refine ⟨_, hat', ?_, ?_⟩
  ·rw [e]; exact Zli hh hl
  ·obtain ⟨a, n, c, e⟩ := Za5 hl.row; show p.2.oneCell' = true; rw [e]; rfl
theorem Zj5 {w : World} {base : Nat} {v : Value} {ls : List LaD} (h : w.ownsRow base 65 2 v ls.length (Za9 ls)) : PRep (hAll w) v (SL 2 (laR ls)) := Zlh (fun _ _ _ => rfl) h
theorem Zsp {w : World} {B : Nat} {v : Value} {q : List (SmD × Value)} (h : SamM w B v q) : PRep (hAll w) v (SL 3 (smR (q.map (·.1)))) := Zli (fun _ _ _ => rfl) h
theorem Zqe {w : World} {B : Nat} {v : Value} {f : FaD} {q : List (SmD × Value)} (e : f.ss = q.map (·.1)) (h : SamM w B v q) : PRep (hAll w) (.agg #[.string f.nm, .string f.hp, .int .i64 f.ty, v]) (.agg f.row) := by
 refine .agg _ _ rfl fun i u c hu hc => ?_
 match i, hu, hc with
 | 0, hu, hc => cases hu; cases hc; exact .val _
 | 1, hu, hc => cases hu; cases hc; exact .val _
 | 2, hu, hc => cases hu; cases hc; exact .val _
 | 3, hu, hc => cases hu; cases hc; rw [e]; exact Zsp h
 | i + 4, hu, hc => simp at hu
theorem Znt {w : World} {B : Nat} {v : Value} {x : SmD} (h : w.ownsRow B 65 2 v x.ls.length (Za9 x.ls)) : PRep (hAll w) (.agg #[.string x.nm, v, .int .i64 x.v]) (.agg x.row) := by
 refine .agg _ _ rfl fun i u c hu hc => ?_
 match i, hu, hc with
 | 0, hu, hc => cases hu; cases hc; exact .val _
 | 1, hu, hc => cases hu; cases hc; exact Zj5 h
 | 2, hu, hc => cases hu; cases hc; exact .val _
 | i + 3, hu, hc => simp at hu

theorem Zva {w : World} {R B g cap : Nat} {gs : List (FaD × Value)} {p : FaD × Value} (hR : R < B) (h1 : w.heap[R]? = some (.cells #[.slice (some ⟨g, 0, none⟩) (gs.length + 1) cap] 69 (0, 0))) (hr : w.ownsRow B 60 4 (.slice (some ⟨g, 0, none⟩) (gs.length + 1) cap) (gs.length + 1) (Za4 (gs ++ [p])))
  (hs : ∀ x ∈ gs, ∃ l : List (SmD × Value), x.1.ss = l.map (·.1) ∧ SamM w B x.2 l) (hp : gs.Pairwise fun p q => p.2.ownBlock = none ∨ p.2.ownBlock ≠ q.2.ownBlock) (j : Nat) (u : Value) (q : FaD × Value)
  (hq : (Za4 (gs ++ [p])).set (gs.length * 4 + j) u = Za4 (gs ++ [q])) (hsam : ∃ l : List (SmD × Value), q.1.ss = l.map (·.1) ∧ SamM w B q.2 l) (hsep : ∀ x ∈ gs, x.2.ownBlock = none ∨ x.2.ownBlock ≠ q.2.ownBlock) :
  RdM (w.setCell ⟨g, gs.length * 4 + j, none⟩ u) R B (gs ++ [q]) ∧ KeptB R B w (w.setCell ⟨g, gs.length * 4 + j, none⟩ u) := by
 have hlen2 : (gs ++ [q]).length = gs.length + 1 := (by simp); obtain ⟨s1, s2⟩ := hr.stored (gs.length * 4 + j) u; have hgB : B ≤ g := (hr.lt g rfl).1; have hkeep : ∀ {b e sz n : Nat} {v : Value} {xs : List Value}, e ≠ 60 → w.ownsRow b e sz v n xs → (w.setCell ⟨g, gs.length * 4 + j, none⟩ u).ownsRow b e sz v n xs := fun he h => h.kept s2 (Zc0 h hr he); refine ⟨⟨hR, .slice (some ⟨g, 0, none⟩) (gs.length + 1) cap, (Below.heap_setCell _ _ _ _ (by show R ≠ g; omega)).trans h1, ?_, fun x hx => ?_, ?_⟩, ?_⟩
 ·rw [hlen2, ← hq]; exact s1
 ·rcases List.mem_append.1 hx with hx | hx
  ·obtain ⟨l, e, hl⟩ := hs x hx; exact ⟨l, e, hkeep (by decide) hl.row, fun y hy => hkeep (by decide) (hl.lab y hy)⟩
  ·have : x = q := (by simpa using hx); subst this; obtain ⟨l, e, hl⟩ := hsam; exact ⟨l, e, hkeep (by decide) hl.row, fun y hy => hkeep (by decide) (hl.lab y hy)⟩
 ·refine List.pairwise_append.2 ⟨hp, by simp, fun x hx y hy => ?_⟩; have : y = q := (by simpa using hy); subst this; exact hsep x hx
 ·exact ⟨rfl, rfl, rfl, by simp [World.setCell], fun k hk _ => Below.heap_setCell _ _ _ _ (by show k ≠ g; omega)⟩
theorem Zdl {P : Program} (w : World) (base : Nat) (t ty e : TypeId) (i : TypeInfo) (z : Value) (size bytes : Nat) (ht : P.underlying t = some (.slice e)) (hi : P.info? e = some i) (hz : i.zero = some z)
  (hsize : i.size = size) (hby : i.bytes = bytes) (hzs : z.cells.size = size) (hsz : 0 < size)
  (v : Value) (n : Nat) (xs : List Value) (hown : w.ownsRow base e size v n xs)
  (a : Addr) (c : Nat) (news : List Value) (hl : news.length = 1 * size) (hnews : ∀ j u, news[j]? = some u → w.cell? (a.add j) = some u) (h1 : ∀ u ∈ news, u.oneCell' = true)
  (hn : n ≤ 1000) (hbytes : (n + 1) * bytes ≤ 140737488355328) (hb1 : bytes ≤ 1000) (hbase : base ≤ w.heap.size) :
  ∃ v' w', (Builtin.append_ #[t, t] ty #[v, .slice (some a) 1 c]).run P w = .ok v' w' ∧ w'.ownsRow base e size v' (n + 1) (xs ++ news) ∧ w.grownBy w' v.ownBlock ∧ (v'.ownBlock = v.ownBlock ∨ v'.ownBlock = some w.heap.size) := by
 obtain ⟨v', w', hr, h2, h3, h4⟩ := run_append_own (P := P) w base t ty e i z size bytes ht hi hz hsize hby hzs hsz v n xs hown a 1 c news hl hnews h1 (by unfold maxLen; omega) hbytes hbase; refine ⟨v', w', hr, h2, h3, ?_⟩; subst hsize; subst hby
 rcases hown.2 with ⟨rfl, rfl⟩ | ⟨g, cap, cur, rfl, hbg, hg, hnc, hcm, hcs, htake⟩
 ·have hr2 := run_append_nil (P := P) w t ty e i z ht hi hz a 1 c news hl hnews (by decide) (by decide) (by omega); rw [hr] at hr2; injection hr2 with e1 e2; rw [e1]; exact .inr rfl
 ·by_cases hroom : n + 1 ≤ cap
  ·obtain ⟨w2, hr2, _⟩ := run_append_fits (P := P) w base t ty e i i.size ht hi rfl g n cap xs hown a 1 c news hl hnews h1 hroom; rw [hr] at hr2; injection hr2 with e1 e2; rw [e1]; exact .inl rfl
  ·have holds : ∀ j u, xs[j]? = some u → w.cell? ((⟨g, 0, none⟩ : Addr).add j) = some u := hown.cells (g := g) rfl; have hr2 := run_append_grow (P := P) w t ty e i z ht hi hz ⟨g, 0, none⟩ n cap xs hown.1 holds a 1 c news hl hnews (by omega) (by omega) (growslice_fits (by omega) hbytes); rw [hr] at hr2; injection hr2 with e1 e2; rw [e1]; exact .inr rfl
theorem Zxe (wA : World) (R B g cap : Nat) (gs : List (FaD × Value)) (p : FaD × Value) (x : SmD) (v : Value) (hR : R < B) (hB : B ≤ wA.heap.size) (hL : LastAt wA R B g gs.length cap p) (h2 : FamM wA B (.slice (some ⟨g, 0, none⟩) (gs.length + 1) cap) (gs ++ [p])) (hv : wA.ownsRow B 65 2 v x.ls.length (Za9 x.ls)) (hl : p.1.ss.length ≤ 1000) :
  ∃ v' wC, (Builtin.append_ #[58, 58] 58 #[p.2, .slice (some ⟨wA.heap.size, 0, none⟩) 1 1]).run Tryd.prog (wA.alloc (.cells #[.string x.nm, v, .int .i64 x.v] 63)) = .ok v' wC ∧
   (∀ (k t : Nat) a, wA.heap[k]? = some (.cells a t (0, 0)) → t ≠ 63 → wC.heap[k]? = wA.heap[k]?) ∧ (∃ p n c, v' = .slice p n c) ∧
   RdM (wC.setCell ⟨g, gs.length * 4 + 3, none⟩ v') R B (gs ++ [(⟨p.1.nm, p.1.hp, p.1.ty, p.1.ss ++ [x]⟩, v')]) ∧ KeptB R B wA (wC.setCell ⟨g, gs.length * 4 + 3, none⟩ v') := by
 obtain ⟨q, eq, hq⟩ := h2.sam p (by simp); obtain ⟨i0, hi, hz0, hz1, hz2⟩ := info_parts Zv6; have hvo : v.oneCell' = true := (by obtain ⟨a, n, c, e⟩ := Za5 hv; rw [e]; rfl); have hql : q.length = p.1.ss.length := (by rw [eq]; simp); have hgA : wA.grownBy (wA.alloc (.cells #[.string x.nm, v, .int .i64 x.v] 63)) none := World.grownBy_alloc wA _ none; have hrowA := hq.row.alloc (.cells #[.string x.nm, v, .int .i64 x.v] 63)
 have hone : ∀ u ∈ [Value.string x.nm, v, .int .i64 x.v], u.oneCell' = true := by
  intro u hu; simp only [List.mem_cons, List.not_mem_nil, or_false] at hu
  rcases hu with rfl | rfl | rfl
  ·rfl
  ·exact hvo
  ·rfl
 obtain ⟨v', wC, hrun, hown, hgr, hblk⟩ := Zdl (P := Tryd.prog) (wA.alloc (.cells #[.string x.nm, v, .int .i64 x.v] 63)) B 58 58 63 i0 _ 3 48 Zsg hi hz0 hz1 hz2 rfl (by decide) p.2 q.length (Zdb q) hrowA ⟨wA.heap.size, 0, none⟩ 1 [.string x.nm, v, .int .i64 x.v] rfl (fun j u h => Zg7 wA _ 63 j u h) hone (by omega) (by omega) (by decide) (by simp; omega); have hsz : wA.heap.size < (wA.alloc (.cells #[.string x.nm, v, .int .i64 x.v] 63)).heap.size := (by simp); generalize wA.alloc (.cells #[.string x.nm, v, .int .i64 x.v] 63) = wB at *; have hkeep : ∀ (k t : Nat) a, wA.heap[k]? = some (.cells a t (0, 0)) → t ≠ 63 → wC.heap[k]? = wA.heap[k]? := fun k t a hk ht => by have hks := (Array.getElem?_eq_some_iff.1 hk).1; have hkB := Zax hgA hks (by simp); refine (Zax hgr (by omega) (fun e => ?_)).trans hkB; obtain ⟨_, _, cur, hc⟩ := Zez hrowA e.symm; rw [hkB, hk] at hc; simp only [Option.some.injEq, Obj.cells.injEq] at hc; exact ht hc.2.1
 have hown2 : ∀ {b e sz n : Nat} {u : Value} {xs : List Value}, e ≠ 63 → wA.ownsRow b e sz u n xs → wC.ownsRow b e sz u n xs := fun he h => (h.kept hgA (Zb4 _)).kept hgr (Zc0 h hq.row he); have hRC := (hkeep R 69 _ hL.rd (by decide)).trans hL.rd; have hlen : (gs ++ [p]).length = gs.length + 1 := (by simp); have hrow28 := h2.row; rw [hlen] at hrow28; have hsepo := (List.pairwise_append.1 h2.sep).2.2; have hkp : ∀ y ∈ gs, ∃ l : List (SmD × Value), y.1.ss = l.map (·.1) ∧ SamM wC B y.2 l := fun y hy => by obtain ⟨l, e, hl⟩ := h2.sam y (by simp [hy]); refine ⟨l, e, ?_, fun u hu => hown2 (by decide) (hl.lab u hu)⟩; exact (hl.row.kept hgA (Zb4 _)).kept hgr (hsepo y hy p (by simp))
 have hsam : SamM wC B v' (q ++ [(x, v)]) := by
  refine ⟨?_, fun u hu => ?_⟩
  ·rw [Zg4, List.length_append]; exact hown
  ·rcases List.mem_append.1 hu with hu | hu
   ·exact hown2 (by decide) (hq.lab u hu)
   ·have : u = (x, v) := (by simpa using hu); subst this; exact hown2 (by decide) hv
 have hsep : ∀ y ∈ gs, y.2.ownBlock = none ∨ y.2.ownBlock ≠ v'.ownBlock := fun y hy => by
  rcases hblk with hb | hb
  ·rw [hb]; exact hsepo y hy p (by simp)
  ·rw [hb]
   cases ho : y.2.ownBlock with
   | none => exact .inl rfl
   | some k => refine .inr fun e => ?_; obtain ⟨l, _, hl⟩ := h2.sam y (by simp [hy]); have := (hl.row.lt k ho).2; have e2 : k = wB.heap.size := (by simpa using e); omega
 have hset := Zva (w := wC) hR hRC (hown2 (by decide) hrow28) hkp (List.pairwise_append.1 h2.sep).1 3 v' (⟨p.1.nm, p.1.hp, p.1.ty, p.1.ss ++ [x]⟩, v') (by rw [Zd2, Zbo]; rfl) ⟨q ++ [(x, v)], by rw [eq]; simp, hsam⟩ hsep; refine ⟨v', wC, hrun, hkeep, Za5 hown, hset.1, KeptB.trans ⟨hgr.os.trans hgA.os, hgr.tape.trans hgA.tape, hgr.output.trans hgA.output, by have := hgr.size; omega, fun k hk hne => ?_⟩ hset.2⟩; refine (Zax hgr (by omega) (fun e => ?_)).trans (Zax hgA (by omega) (by simp)); have := (hq.row.lt k e.symm).1; omega

theorem Zc2 {w w' : World} {base : Nat} {e : TypeId} {size : Nat} {v : Value} {n : Nat} {xs : List Value} (h : w.ownsRow base e size v n xs) (hb : Below w.heap.size w w') : w'.ownsRow base e size v n xs := h.kept (Zdg (B := 0) hb) (Zb4 _)
theorem rep1 {h : Hp} {v : Value} {s : SV} (r : PRep h v s) : Zgh h (fun _ => noLoc) [v] [s] := ⟨rfl, fun i u c hu hc => by
 match i, hu, hc with
 | 0, hu, hc => cases hu; cases hc; exact .pure _ _ r
 | i + 1, hu, hc => simp at hu⟩
theorem rep2 {h : Hp} {v u : Value} {s t : SV} (r : PRep h v s) (q : PRep h u t) : Zgh h (fun _ => noLoc) [v, u] [s, t] := ⟨rfl, fun i a c hu hc => by
 match i, hu, hc with
 | 0, hu, hc => cases hu; cases hc; exact .pure _ _ r
 | 1, hu, hc => cases hu; cases hc; exact .pure _ _ q
 | i + 2, hu, hc => simp at hu⟩
theorem KeptB.below {R B : Nat} {a w w' : World} (h : KeptB R B a w) (hb : Below w.heap.size w w') (hB : B ≤ w.heap.size) : KeptB R B a w' := h.trans (KeptB.of_below hb hB)

set_option maxHeartbeats 1000000 in
set_option maxRecDepth 100000 in
theorem Zmk (R B : Nat) (nm hp : ByteArray) (of : Int) (x : SmD) (v : Value) (hv : ∃ p n c, v = .slice p n c) (w : World) (h : RdM w R B []) (hB : B ≤ w.heap.size) :
  Calls Tryd.prog 31 #[.pointer (some ⟨R, 0, none⟩), lnV ⟨3, nm, hp, of, x⟩ v] w (TkOut R B w (tk [] ⟨3, nm, hp, of, x⟩)) := by
 obtain ⟨vp, vn, vc, rfl⟩ := hv; have hb1 : Below w.heap.size w (w.alloc (.cells #[.int .i64 3, .string nm, .string hp, .int .i64 of, .string x.nm, .slice vp vn vc, .int .i64 x.v] 73)) := (Below.refl _ _).alloc (Nat.le_refl _) _; have hR1 := h.below hb1; have hl1 := heap_alloc_new w (.cells #[.int .i64 3, .string nm, .string hp, .int .i64 of, .string x.nm, .slice vp vn vc, .int .i64 x.v] 73); have K1 := KeptB.of_below (R := R) hb1 hB; have hL := Zg5 R B _ hR1; have b0 := Zab hl1 0; simp only [List.getElem?_toArray, List.getElem?_cons_zero] at b0; clear hl1 h hR1
 go_enter Tryd.func31, Tryd.ntmps31
 go_wp2_with (go_at_call 79; refine hL.mono ?_; rintro e w' ⟨rfl, h⟩; subst h)
 go_ret; exact Zdh rfl K1

set_option maxHeartbeats 2000000 in
set_option maxRecDepth 100000 in
theorem Zku (R B : Nat) (gs : List (FaD × Value)) (p : FaD × Value) (nm hp : ByteArray) (of : Int) (x : SmD) (v : Value) (w : World) (h : RdM w R B (gs ++ [p])) (hB : B ≤ w.heap.size) (hn : gs.length < 100) (hss : p.1.ss.length ≤ 1000) (hfit : Zf9 p.1 p.1.ss.length) (hnm : p.1.nm.size ≤ 1000) (hG : GlW w) (hv : w.ownsRow B 65 2 v x.ls.length (Za9 x.ls)) :
  Calls Tryd.prog 31 #[.pointer (some ⟨R, 0, none⟩), lnV ⟨3, nm, hp, of, x⟩ v] w (TkOut R B w (tk (fsts (gs ++ [p])) ⟨3, nm, hp, of, x⟩)) := by
 obtain ⟨vp, vn, vc, rfl⟩ := Za5 hv; have htk : tk (fsts (gs ++ [p])) ⟨3, nm, hp, of, x⟩ = if ¬ p.1.ty = 0 ∧ fitP p.1 x then some (fsts gs ++ [⟨p.1.nm, p.1.hp, p.1.ty, p.1.ss ++ [x]⟩]) else none := (by unfold tk fsts; rw [if_neg (by show ¬ (3 : Int) = 1; decide)]; simp); have hb1 : Below w.heap.size w (w.alloc (.cells #[.int .i64 3, .string nm, .string hp, .int .i64 of, .string x.nm, .slice vp vn vc, .int .i64 x.v] 73)) := (Below.refl _ _).alloc (Nat.le_refl _) _; have hR1 := h.below hb1; have hl1 := heap_alloc_new w (.cells #[.int .i64 3, .string nm, .string hp, .int .i64 of, .string x.nm, .slice vp vn vc, .int .i64 x.v] 73); have K1 := KeptB.of_below (R := R) hb1 hB; have hv1 := Zc2 hv hb1; have hG1 : GlW (w.alloc (.cells #[.int .i64 3, .string nm, .string hp, .int .i64 of, .string x.nm, .slice vp vn vc, .int .i64 x.v] 73)) := hG.kept fun k hk => hb1.block k (Nat.lt_of_lt_of_le hk hG.low); have hB1 : B ≤ (w.alloc (.cells #[.int .i64 3, .string nm, .string hp, .int .i64 of, .string x.nm, .slice vp vn vc, .int .i64 x.v] 73)).heap.size := Nat.le_trans hB hb1.size; obtain ⟨g, cap, hLa⟩ := hR1.last; have hF := hR1.lastF hLa rfl; obtain ⟨sp, sc, hsv⟩ := hLa.sv; have htkH : Hid (tk (fsts (gs ++ [p])) ⟨3, nm, hp, of, x⟩ = if ¬ p.1.ty = 0 ∧ fitP p.1 x then some (fsts gs ++ [⟨p.1.nm, p.1.hp, p.1.ty, p.1.ss ++ [x]⟩]) else none) := htk; clear hv hG h htk; have hL := Zg6 R gs.length cap g _ hLa.rd (by omega); generalize hbx : w.heap.size = bx at *
 go_enter Tryd.func31, Tryd.ntmps31
 go_wp2_with (go_at_call 79; fail)
 generalize w.alloc (.cells #[.int .i64 3, .string nm, .string hp, .int .i64 of, .string x.nm, .slice vp vn vc, .int .i64 x.v] 73) = w1 at *; have b0 := Zab hl1 0; simp only [List.getElem?_toArray, List.getElem?_cons_zero] at b0; refine hL.mono ?_; rintro e w' ⟨rfl, h⟩; obtain rfl := h.symm; clear hL; have y0 := hLa.c0; have y1 := hLa.c1; have y2 := hLa.c2; have y3 := hLa.c3; rw [hsv] at y3; by_cases h0 : p.1.ty = 0
 ·have hr := htkH.out.trans (if_neg (fun e => e.1 h0)); rw [h0] at y2; go_wp2; go_ret; exact Zdh hr K1.drew
 have i0 : (p.1.ty == 0) = false := (by simp [h0]); by_cases h4 : p.1.ss.length < 400
 ·have n4 : ¬ (400 : Int) ≤ (p.1.ss.length : Int) := (by omega); go_wp2; have hd : Below w1.heap.size w1 w1.drew.drew := (Below.refl _ _).drew.drew; have hLz := hLa.below hd; have hFz := hF.below hd; have hvz := Zc2 hv1 hd; have hGz : GlW w1.drew.drew := hG1.kept fun k hk => hd.block k (Nat.lt_of_lt_of_le hk hG1.low); have hlz := (hd.block _ (Array.getElem?_eq_some_iff.1 hl1).1).trans hl1; have Kz := K1.below hd hB1; have hBz : B ≤ w1.drew.drew.heap.size := Nat.le_trans hB1 hd.size; have hRB := hR1.lt; clear hLa hF hv1 hG1 hl1 K1 hB1 hd hR1 hb1 b0 y0 y1 y2 y3; generalize w1.drew = wz at *; generalize hw0 : wz.drew = w0 at *; have hsmp : ∃ q2 : List (SmD × Value), Hid (p.1.ss = q2.map (·.1)) ∧ SamM w0 B p.2 q2 := hFz.sam p (by simp); obtain ⟨q2, eq2, hq2⟩ := hsmp; have xc := fun i => Zab hlz i; have x4 := xc 4; have x5 := xc 5; have x6 := xc 6; simp only [List.getElem?_toArray, List.getElem?_cons_succ, List.getElem?_cons_zero] at x4 x5 x6; have y0 := hLz.c0; have y1 := hLz.c1; have y2 := hLz.c2; have y3 := hLz.c3; rw [hsv] at y3; have hJ0 : Below w0.heap.size w0 w0 := Below.refl _ _; have gk : ∀ w1, Below w0.heap.size w0 w1 → GlW w1 := fun w1 hJ => hGz.kept fun k hk => hJ.block k (Nat.lt_of_lt_of_le hk hGz.low); have hcl := Zov x.ls; by_cases hlab : labP x.ls
  ·rw [decide_eq_true hlab] at hcl
   have hLab : ∀ w1, Below w0.heap.size w0 w1 → Calls Tryd.prog 80 #[.slice vp vn vc] w1 fun e w' => e = .returned (.bool true) ∧ Below w1.heap.size w1 w' := fun w1 hJ =>
    Zbq hcl (Zcx w1) (gk w1 hJ) (rep1 (Zj5 (Zc2 hvz hJ)))
   have hcf := Zry p.1 x hnm hss hlab hfit; by_cases hfol : folP p.1 x
   ·rw [decide_eq_true hfol] at hcf; have hFol : ∀ w1, Below w0.heap.size w0 w1 → Calls Tryd.prog 81 #[.agg #[.string p.1.nm, .string p.1.hp, .int .i64 p.1.ty, .slice sp p.1.ss.length sc], .agg #[.string x.nm, .slice vp vn vc, .int .i64 x.v]] w1 fun e w' => e = .returned (.bool true) ∧ Below w1.heap.size w1 w' := fun w1 hJ => by have hq3 := hq2.grown (Zdg (B := 0) hJ) (Zb4 _) fun _ _ => Zb4 _; rw [hsv] at hq3; exact Zbq hcf (Zcx w1) (gk w1 hJ) (rep2 (Zqe eq2.out hq3) (Znt (Zc2 hvz hJ)))
    refine wp_region_any (by kernel_rfl) ?_; rw [show ({ heap := wz.heap, tape := wz.tape, drawn := wz.drawn + 1, os := wz.os, output := wz.output } : World) = w0 from hw0]; refine Zcc (fun _ w' => Below w0.heap.size w0 w') [some (60, .pointer (some ⟨bx, 4, none⟩)), some (61, .pointer (some ⟨bx, 5, none⟩)), some (62, .slice vp vn vc), some (63, .bool true), some (64, .bool false), some (65, .bool false), some (66, .pointer (some ⟨g, gs.length * 4, none⟩)), some (67, .pointer (some ⟨g, gs.length * 4, none⟩)), some (68, .agg #[.string p.1.nm, .string p.1.hp, .int .i64 p.1.ty, .slice sp p.1.ss.length sc]), some (69, .pointer (some ⟨bx, 4, none⟩)), some (70, .agg #[.string x.nm, .slice vp vn vc, .int .i64 x.v]), some (71, .bool true), some (72, .bool false), some (73, .bool false)] rfl (by show List.Nodup [60, 61, 62, 63, 64, 65, 66, 67, 68, 69, 70, 71, 72, 73]; decide) (by simp) hJ0 ?_ ?_ (Zd8 rfl)
    ·intro i o q listed act w1 ho hq hsee hl0 hls hdeps hJ
     match i, ho, hq, hl0 with
     | 0, ho, hq, hl0 => simp at ho hq; subst hq; subst ho; have e0 : act.tmps.getD 3 undef = _ := hsee.old 3 rfl; simp at e0; exact tA rfl (hJ) fun _ => by simp [goPut, Oper.wp, execOp, Act.eval, e0, go_sem]
     | 1, ho, hq, hl0 => simp at ho hq; subst hq; subst ho; have e0 := hsee.fu 0 60 rfl rfl; exact tA rfl (hJ) fun _ => by simp [goPut, Oper.wp, execOp, Act.eval, e0, go_sem]
     | 2, ho, hq, hl0 => simp at ho hq; subst hq; subst ho; have e0 := hsee.fu 1 61 rfl rfl; have c5 := Zaf hJ x5; exact tA rfl (hJ) fun _ => by simp [goPut, Oper.wp, execOp, Act.eval, e0, go_sem, c5]
     | 3, ho, hq, hl0 => simp at ho hq; subst hq; subst ho; have e0 := hsee.fu 2 62 rfl rfl; refine .inr ⟨rfl, fun K' hK' => ?_⟩; unfold Oper.wp; rw [show (execOp act.eval _).run Tryd.prog w1 = .ok (.enter 80 #[.slice vp vn vc]) w1 from by simp [Act.eval, e0, go_sem], Oper.upon_enter]; refine (hLab w1 hJ).mono ?_; rintro e w3 ⟨rfl, hb3⟩; exact hK' w3 (hJ.trans (hb3.mono hJ.size))
     | 4, ho, hq, hl0 => simp at ho hq; subst hq; subst ho; have e0 := hsee.fu 3 63 rfl rfl; exact tA rfl (hJ) fun _ => by simp [goPut, Oper.wp, execOp, Act.eval, e0, go_sem]
     | 5, ho, hq, hl0 => simp at ho hq; subst hq; subst ho; have e0 := hsee.fu 4 64 rfl rfl; exact tA rfl (hJ) fun _ => by simp [goPut, Oper.wp, execOp, Act.eval, e0, go_sem]
     | 6, ho, hq, hl0 => simp at ho hq; subst hq; subst ho; have e0 : act.tmps.getD 6 undef = _ := hsee.old 6 rfl; simp at e0; exact tA (Zac (j := 5) (d := 65) (want := false) rfl rfl rfl (hsee.full 5 65 _ rfl rfl)) (hJ) fun _ => by simp [goPut, Oper.wp, execOp, Act.eval, e0, go_sem]
     | 7, ho, hq, hl0 => simp at ho hq; subst hq; subst ho; have e0 := hsee.fu 6 66 rfl rfl; exact tA (Zac (j := 5) (d := 65) (want := false) rfl rfl rfl (hsee.full 5 65 _ rfl rfl)) (hJ) fun _ => by simp [goPut, Oper.wp, execOp, Act.eval, e0, go_sem]
     | 8, ho, hq, hl0 => simp at ho hq; subst hq; subst ho; have e0 := hsee.fu 7 67 rfl rfl; have d0 := Zaf hJ y0; have d1 := Zaf hJ y1; have d2 := Zaf hJ y2; have d3 := Zaf hJ y3; exact tA (Zac (j := 5) (d := 65) (want := false) rfl rfl rfl (hsee.full 5 65 _ rfl rfl)) (hJ) fun _ => by simp [goPut, Oper.wp, execOp, Act.eval, e0, go_sem, d0, d1, d2, d3]
     | 9, ho, hq, hl0 => simp at ho hq; subst hq; subst ho; have e0 : act.tmps.getD 3 undef = _ := hsee.old 3 rfl; simp at e0; exact tA (Zac (j := 5) (d := 65) (want := false) rfl rfl rfl (hsee.full 5 65 _ rfl rfl)) (hJ) fun _ => by simp [goPut, Oper.wp, execOp, Act.eval, e0, go_sem]
     | 10, ho, hq, hl0 => simp at ho hq; subst hq; subst ho; have e0 := hsee.fu 9 69 rfl rfl; have c4 := Zaf hJ x4; have c5 := Zaf hJ x5; have c6 := Zaf hJ x6; exact tA (Zac (j := 5) (d := 65) (want := false) rfl rfl rfl (hsee.full 5 65 _ rfl rfl)) (hJ) fun _ => by simp [goPut, Oper.wp, execOp, Act.eval, e0, go_sem, c4, c5, c6]
     | 11, ho, hq, hl0 => simp at ho hq; subst hq; subst ho; have e0 := hsee.fu 8 68 rfl rfl; have e1 := hsee.fu 10 70 rfl rfl; have hgv := hsee.full 5 65 _ rfl rfl; refine .inr ⟨Zac (j := 5) (d := 65) (want := false) rfl rfl rfl hgv, fun K' hK' => ?_⟩; unfold Oper.wp; rw [show (execOp act.eval _).run Tryd.prog w1 = .ok (.enter 81 #[.agg #[.string p.1.nm, .string p.1.hp, .int .i64 p.1.ty, .slice sp p.1.ss.length sc], .agg #[.string x.nm, .slice vp vn vc, .int .i64 x.v]]) w1 from by simp [Act.eval, e0, e1, go_sem], Oper.upon_enter]; refine (hFol w1 hJ).mono ?_; rintro e w3 ⟨rfl, hb3⟩; exact hK' w3 (hJ.trans (hb3.mono hJ.size))
     | 12, ho, hq, hl0 => simp at ho hq; subst hq; subst ho; have e0 := hsee.fu 11 71 rfl rfl; exact tA (Zac (j := 5) (d := 65) (want := false) rfl rfl rfl (hsee.full 5 65 _ rfl rfl)) (hJ) fun _ => by simp [goPut, Oper.wp, execOp, Act.eval, e0, go_sem]
     | 13, ho, hq, hl0 => simp at ho hq; subst hq; subst ho; have e0 := hsee.fu 5 65 rfl rfl; have e1 := hsee.fu 12 72 rfl rfl; exact tA rfl (hJ) fun _ => by simp [goPut, Oper.wp, execOp, Act.eval, e0, e1, go_sem]
     | i + 14, ho, hq, hl0 => simp at ho
    ·intro listed w2 hall hJ; simp only [List.filterMap_cons, List.filterMap_nil, id, puts, Act.put, List.setIfInBounds_toArray, List.set_cons_succ, List.set_cons_zero]; go_wp2; have hd2 := hJ.trans ((Below.refl w2.heap.size w2).drew.mono hJ.size); have hLA := hLz.below hd2; have hFA := hFz.below hd2; have hvA := Zc2 hvz hd2; have hlA := (hd2.block _ (Array.getElem?_eq_some_iff.1 hlz).1).trans hlz; have KA := Kz.below hd2 hBz; have hBA : B ≤ w2.drew.heap.size := Nat.le_trans hBz hd2.size; clear hLab hFol hLz hFz hvz hlz Kz hBz gk hq2 hJ hd2 x4 x5 x6 xc y0 y1 y2 y3 hJ0 hGz hw0; generalize w2 = wq at *; generalize hwA : wq.drew = wA at *; obtain ⟨v', wC, hrun, hkeep, ⟨up, un, uc, rfl⟩, hRD, hKD⟩ := Zxe wA R B g cap gs p x (.slice vp vn vc) hRB hBA hLA hFA hvA hss; rw [hsv] at hrun; have hlC := (hkeep bx 73 _ hlA (by decide)).trans hlA; have hrow := hFA.row; have hgl : ∃ cur, wA.heap[g]? = some (.cells cur 60 (0, 0)) := (Zez hrow rfl).2.2; obtain ⟨cur, hgA⟩ := hgl; have hgC := (hkeep g 60 _ hgA (by decide)).trans hgA; have cA : wA.cell? ⟨g, gs.length * 4 + 3, none⟩ = some (.slice sp p.1.ss.length sc) := (by rw [hLA.c3, hsv]); have cC : wC.cell? ⟨g, gs.length * 4 + 3, none⟩ = some (.slice sp p.1.ss.length sc) := (by rw [World.cell?_of_block (w := wA) (a := ⟨g, gs.length * 4 + 3, none⟩) (hgC.trans hgA.symm), cA]); have fC : wC.frozen? ⟨g, gs.length * 4 + 3, none⟩ = false := (by simp [World.frozen?, hgC]); have bB : Below wA.heap.size wA (wA.alloc (.cells #[.string x.nm, .slice vp vn vc, .int .i64 x.v] 63)) := (Below.refl _ _).alloc (Nat.le_refl _) _; have cB := Zaf bB cA; have hlB := (bB.block _ (Array.getElem?_eq_some_iff.1 hlA).1).trans hlA; have hbg : bx ≠ g := by intro e; subst e; rw [hlA] at hgA; simp at hgA
     have hlD := (Below.heap_setCell wC ⟨g, gs.length * 4 + 3, none⟩ (.slice up un uc) bx hbg).trans hlC; have gA4 := Zab hlA 4; have gA5 := Zab hlA 5; have gA6 := Zab hlA 6; have gB4 := Zab hlB 4; have gB5 := Zab hlB 5; have gB6 := Zab hlB 6; have gC4 := Zab hlC 4; have gC5 := Zab hlC 5; have gC6 := Zab hlC 6; have gD4 := Zab hlD 4; have gD5 := Zab hlD 5; have gD6 := Zab hlD 6; simp only [List.getElem?_toArray, List.getElem?_cons_succ, List.getElem?_cons_zero] at gA4 gA5 gA6 gB4 gB5 gB6 gC4 gC5 gC6 gD4 gD5 gD6; have gA := And.intro gA4 (And.intro gA5 gA6); have gB := And.intro gB4 (And.intro gB5 gB6); have gC := And.intro gC4 (And.intro gC5 gC6); have gD := And.intro gD4 (And.intro gD5 gD6); clear hlB hlC hlD hlA hgA hgC bB; refine wp_region_any (by kernel_rfl) ?_; rw [show ({ heap := wq.heap, tape := wq.tape, drawn := wq.drawn + 1, os := wq.os, output := wq.output } : World) = wA from hwA]; refine Zcc (J3 7 8 11 4 (fun w => w.cell? ⟨bx, 4, none⟩ = some (.string x.nm) ∧ w.cell? ⟨bx, 5, none⟩ = some (.slice vp vn vc) ∧ w.cell? ⟨bx, 6, none⟩ = some (.int .i64 x.v)) wA (wA.alloc (.cells #[.string x.nm, .slice vp vn vc, .int .i64 x.v] 63)) wC (wC.setCell ⟨g, gs.length * 4 + 3, none⟩ (.slice up un uc))) [some (74, .pointer (some ⟨g, gs.length * 4, none⟩)), some (75, .pointer (some ⟨g, gs.length * 4, none⟩)), some (76, .pointer (some ⟨g, gs.length * 4, none⟩)), some (77, .pointer (some ⟨g, gs.length * 4 + 3, none⟩)), some (78, .slice sp p.1.ss.length sc), some (79, .pointer (some ⟨bx, 4, none⟩)), some (80, .agg #[.string x.nm, .slice vp vn vc, .int .i64 x.v]), some (81, .slice (some ⟨wA.heap.size, 0, none⟩) 1 1), some (82, .slice up un uc), some (83, .pointer (some ⟨g, gs.length * 4, none⟩)), some (84, .pointer (some ⟨g, gs.length * 4 + 3, none⟩)), none] rfl (by show List.Nodup [74, 75, 76, 77, 78, 79, 80, 81, 82, 83, 84]; decide) (by simp) (J3.start _ gA) ?_ ?_ (Zd8 rfl)
     ·intro i o q listed act w1 ho hq hsee hl0 hls hdeps hJ
      match i, ho, hq, hl0 with
      | 0, ho, hq, hl0 => simp at ho hq; subst hq; subst ho; have e0 : act.tmps.getD 6 undef = _ := hsee.old 6 rfl; simp at e0; exact tA rfl (hJ.oth 0 hls (by decide)) fun _ => by simp [goPut, Oper.wp, execOp, Act.eval, e0, go_sem]
      | 1, ho, hq, hl0 => simp at ho hq; subst hq; subst ho; have e0 : act.tmps.getD 6 undef = _ := hsee.old 6 rfl; simp at e0; exact tA rfl (hJ.oth 1 hls (by decide)) fun _ => by simp [goPut, Oper.wp, execOp, Act.eval, e0, go_sem]
      | 2, ho, hq, hl0 => simp at ho hq; subst hq; subst ho; have e0 := hsee.fu 1 75 rfl rfl; exact tA rfl (hJ.oth 2 hls (by decide)) fun _ => by simp [goPut, Oper.wp, execOp, Act.eval, e0, go_sem]
      | 3, ho, hq, hl0 => simp at ho hq; subst hq; subst ho; have e0 := hsee.fu 2 76 rfl rfl; exact tA rfl (hJ.oth 3 hls (by decide)) fun _ => by simp [goPut, Oper.wp, execOp, Act.eval, e0, go_sem]
      | 4, ho, hq, hl0 =>
       simp at ho hq; subst hq; subst ho; have e0 := hsee.fu 3 77 rfl rfl; have c0 : w1.cell? ⟨g, gs.length * 4 + 3, none⟩ = some (.slice sp p.1.ss.length sc) := by rcases hJ.early hl0 with rfl | rfl; exact cA; exact cB
       exact tA rfl (hJ.oth 4 hls (by decide)) fun _ => by simp [goPut, Oper.wp, execOp, Act.eval, e0, go_sem, c0]
      | 5, ho, hq, hl0 => simp at ho hq; subst hq; subst ho; have e0 : act.tmps.getD 3 undef = _ := hsee.old 3 rfl; simp at e0; exact tA rfl (hJ.oth 5 hls (by decide)) fun _ => by simp [goPut, Oper.wp, execOp, Act.eval, e0, go_sem]
      | 6, ho, hq, hl0 => simp at ho hq; subst hq; subst ho; have e0 := hsee.fu 5 79 rfl rfl; have c4 := hJ.g.1; have c5 := hJ.g.2.1; have c6 := hJ.g.2.2; exact tA rfl (hJ.oth 6 hls (by decide)) fun _ => by simp [goPut, Oper.wp, execOp, Act.eval, e0, go_sem, c4, c5, c6]
      | 7, ho, hq, hl0 =>
       simp at ho hq; subst hq; subst ho; have e0 := hsee.fu 6 80 rfl rfl; refine .inr ⟨rfl, fun K' hK' => ?_⟩; obtain ⟨hw1, hn⟩ := hJ.first (by rw [hls]; decide) hl0 (by decide) (by decide)
       subst hw1; refine cast ?_ (hK' _ (hn gB)); simp [goPut, Oper.wp, execOp, Act.eval, e0, go_sem]
      | 8, ho, hq, hl0 => simp at ho hq; subst hq; subst ho; have e0 := hsee.fu 4 78 rfl rfl; have e1 := hsee.fu 7 81 rfl rfl; refine .inr ⟨rfl, fun K' hK' => ?_⟩; obtain ⟨hw1, hn⟩ := hJ.second (by rw [hls]; decide) hl0 (hdeps ⟨7, .data⟩ (by simp) rfl) (hdeps ⟨4, .data⟩ (by simp) rfl) (by decide) (by decide) (by decide); subst hw1; exact Zcg (.tmp 78) (.tmp 81) 58 rfl (.slice sp p.1.ss.length sc) (.slice (some ⟨wA.heap.size, 0, none⟩) 1 1) (.slice up un uc) wC (by simp [Act.eval, e0]) (by simp [Act.eval, e1]) hrun (hK' wC (hn gC))
      | 9, ho, hq, hl0 => simp at ho hq; subst hq; subst ho; have e0 := hsee.fu 0 74 rfl rfl; exact tA rfl (hJ.oth 9 hls (by decide)) fun _ => by simp [goPut, Oper.wp, execOp, Act.eval, e0, go_sem]
      | 10, ho, hq, hl0 => simp at ho hq; subst hq; subst ho; have e0 := hsee.fu 9 83 rfl rfl; exact tA rfl (hJ.oth 10 hls (by decide)) fun _ => by simp [goPut, Oper.wp, execOp, Act.eval, e0, go_sem]
      | 11, ho, hq, hl0 => simp at ho hq; subst hq; subst ho; have e0 := hsee.fu 10 84 rfl rfl; have e1 := hsee.fu 8 82 rfl rfl; refine .inr ⟨rfl, fun K' hK' => ?_⟩; obtain ⟨hw1, hn⟩ := hJ.third (by rw [hls]; decide) hl0 (hdeps ⟨8, .data⟩ (by simp) rfl) (by decide) (by decide) (by decide); subst hw1; refine cast ?_ (hK' _ (hn gD)); simp [goPut, Oper.wp, execOp, Act.eval, e0, e1, cC, fC, go_sem]
      | i + 12, ho, hq, hl0 => simp at ho
     ·intro listed w2 hall hJ; have hw2 := hJ.done (hall 11 (by decide)); subst hw2; simp only [List.filterMap_cons, List.filterMap_nil, id, puts, Act.put, List.setIfInBounds_toArray, List.set_cons_succ, List.set_cons_zero]; clear cA cB cC fC gA gB gC gD; go_wp2; go_ret; exact Zmd ((htkH.out.trans (if_pos ⟨h0, hlab, h4, hfol⟩)).trans (by simp [fsts])) (KA.trans hKD) hRD
   ·rw [decide_eq_false hfol] at hcf; have hFol : ∀ w1, Below w0.heap.size w0 w1 → Calls Tryd.prog 81 #[.agg #[.string p.1.nm, .string p.1.hp, .int .i64 p.1.ty, .slice sp p.1.ss.length sc], .agg #[.string x.nm, .slice vp vn vc, .int .i64 x.v]] w1 fun e w' => e = .returned (.bool false) ∧ Below w1.heap.size w1 w' := fun w1 hJ => by have hq3 := hq2.grown (Zdg (B := 0) hJ) (Zb4 _) fun _ _ => Zb4 _; rw [hsv] at hq3; exact Zbq hcf (Zcx w1) (gk w1 hJ) (rep2 (Zqe eq2.out hq3) (Znt (Zc2 hvz hJ)))
    refine wp_region_any (by kernel_rfl) ?_; rw [show ({ heap := wz.heap, tape := wz.tape, drawn := wz.drawn + 1, os := wz.os, output := wz.output } : World) = w0 from hw0]; refine Zcc (fun _ w' => Below w0.heap.size w0 w') [some (60, .pointer (some ⟨bx, 4, none⟩)), some (61, .pointer (some ⟨bx, 5, none⟩)), some (62, .slice vp vn vc), some (63, .bool true), some (64, .bool false), some (65, .bool false), some (66, .pointer (some ⟨g, gs.length * 4, none⟩)), some (67, .pointer (some ⟨g, gs.length * 4, none⟩)), some (68, .agg #[.string p.1.nm, .string p.1.hp, .int .i64 p.1.ty, .slice sp p.1.ss.length sc]), some (69, .pointer (some ⟨bx, 4, none⟩)), some (70, .agg #[.string x.nm, .slice vp vn vc, .int .i64 x.v]), some (71, .bool false), some (72, .bool true), some (73, .bool true)] rfl (by show List.Nodup [60, 61, 62, 63, 64, 65, 66, 67, 68, 69, 70, 71, 72, 73]; decide) (by simp) hJ0 ?_ ?_ (Zd8 rfl)
    ·intro i o q listed act w1 ho hq hsee hl0 hls hdeps hJ
     match i, ho, hq, hl0 with
     | 0, ho, hq, hl0 => simp at ho hq; subst hq; subst ho; have e0 : act.tmps.getD 3 undef = _ := hsee.old 3 rfl; simp at e0; exact tA rfl (hJ) fun _ => by simp [goPut, Oper.wp, execOp, Act.eval, e0, go_sem]
     | 1, ho, hq, hl0 => simp at ho hq; subst hq; subst ho; have e0 := hsee.fu 0 60 rfl rfl; exact tA rfl (hJ) fun _ => by simp [goPut, Oper.wp, execOp, Act.eval, e0, go_sem]
     | 2, ho, hq, hl0 => simp at ho hq; subst hq; subst ho; have e0 := hsee.fu 1 61 rfl rfl; have c5 := Zaf hJ x5; exact tA rfl (hJ) fun _ => by simp [goPut, Oper.wp, execOp, Act.eval, e0, go_sem, c5]
     | 3, ho, hq, hl0 => simp at ho hq; subst hq; subst ho; have e0 := hsee.fu 2 62 rfl rfl; refine .inr ⟨rfl, fun K' hK' => ?_⟩; unfold Oper.wp; rw [show (execOp act.eval _).run Tryd.prog w1 = .ok (.enter 80 #[.slice vp vn vc]) w1 from by simp [Act.eval, e0, go_sem], Oper.upon_enter]; refine (hLab w1 hJ).mono ?_; rintro e w3 ⟨rfl, hb3⟩; exact hK' w3 (hJ.trans (hb3.mono hJ.size))
     | 4, ho, hq, hl0 => simp at ho hq; subst hq; subst ho; have e0 := hsee.fu 3 63 rfl rfl; exact tA rfl (hJ) fun _ => by simp [goPut, Oper.wp, execOp, Act.eval, e0, go_sem]
     | 5, ho, hq, hl0 => simp at ho hq; subst hq; subst ho; have e0 := hsee.fu 4 64 rfl rfl; exact tA rfl (hJ) fun _ => by simp [goPut, Oper.wp, execOp, Act.eval, e0, go_sem]
     | 6, ho, hq, hl0 => simp at ho hq; subst hq; subst ho; have e0 : act.tmps.getD 6 undef = _ := hsee.old 6 rfl; simp at e0; exact tA (Zac (j := 5) (d := 65) (want := false) rfl rfl rfl (hsee.full 5 65 _ rfl rfl)) (hJ) fun _ => by simp [goPut, Oper.wp, execOp, Act.eval, e0, go_sem]
     | 7, ho, hq, hl0 => simp at ho hq; subst hq; subst ho; have e0 := hsee.fu 6 66 rfl rfl; exact tA (Zac (j := 5) (d := 65) (want := false) rfl rfl rfl (hsee.full 5 65 _ rfl rfl)) (hJ) fun _ => by simp [goPut, Oper.wp, execOp, Act.eval, e0, go_sem]
     | 8, ho, hq, hl0 => simp at ho hq; subst hq; subst ho; have e0 := hsee.fu 7 67 rfl rfl; have d0 := Zaf hJ y0; have d1 := Zaf hJ y1; have d2 := Zaf hJ y2; have d3 := Zaf hJ y3; exact tA (Zac (j := 5) (d := 65) (want := false) rfl rfl rfl (hsee.full 5 65 _ rfl rfl)) (hJ) fun _ => by simp [goPut, Oper.wp, execOp, Act.eval, e0, go_sem, d0, d1, d2, d3]
     | 9, ho, hq, hl0 => simp at ho hq; subst hq; subst ho; have e0 : act.tmps.getD 3 undef = _ := hsee.old 3 rfl; simp at e0; exact tA (Zac (j := 5) (d := 65) (want := false) rfl rfl rfl (hsee.full 5 65 _ rfl rfl)) (hJ) fun _ => by simp [goPut, Oper.wp, execOp, Act.eval, e0, go_sem]
     | 10, ho, hq, hl0 => simp at ho hq; subst hq; subst ho; have e0 := hsee.fu 9 69 rfl rfl; have c4 := Zaf hJ x4; have c5 := Zaf hJ x5; have c6 := Zaf hJ x6; exact tA (Zac (j := 5) (d := 65) (want := false) rfl rfl rfl (hsee.full 5 65 _ rfl rfl)) (hJ) fun _ => by simp [goPut, Oper.wp, execOp, Act.eval, e0, go_sem, c4, c5, c6]
     | 11, ho, hq, hl0 => simp at ho hq; subst hq; subst ho; have e0 := hsee.fu 8 68 rfl rfl; have e1 := hsee.fu 10 70 rfl rfl; have hgv := hsee.full 5 65 _ rfl rfl; refine .inr ⟨Zac (j := 5) (d := 65) (want := false) rfl rfl rfl hgv, fun K' hK' => ?_⟩; unfold Oper.wp; rw [show (execOp act.eval _).run Tryd.prog w1 = .ok (.enter 81 #[.agg #[.string p.1.nm, .string p.1.hp, .int .i64 p.1.ty, .slice sp p.1.ss.length sc], .agg #[.string x.nm, .slice vp vn vc, .int .i64 x.v]]) w1 from by simp [Act.eval, e0, e1, go_sem], Oper.upon_enter]; refine (hFol w1 hJ).mono ?_; rintro e w3 ⟨rfl, hb3⟩; exact hK' w3 (hJ.trans (hb3.mono hJ.size))
     | 12, ho, hq, hl0 => simp at ho hq; subst hq; subst ho; have e0 := hsee.fu 11 71 rfl rfl; exact tA (Zac (j := 5) (d := 65) (want := false) rfl rfl rfl (hsee.full 5 65 _ rfl rfl)) (hJ) fun _ => by simp [goPut, Oper.wp, execOp, Act.eval, e0, go_sem]
     | 13, ho, hq, hl0 => simp at ho hq; subst hq; subst ho; have e0 := hsee.fu 5 65 rfl rfl; have e1 := hsee.fu 12 72 rfl rfl; exact tA rfl (hJ) fun _ => by simp [goPut, Oper.wp, execOp, Act.eval, e0, e1, go_sem]
     | i + 14, ho, hq, hl0 => simp at ho
    ·intro listed w2 hall hJ; simp only [List.filterMap_cons, List.filterMap_nil, id, puts, Act.put, List.setIfInBounds_toArray, List.set_cons_succ, List.set_cons_zero]; go_wp2; go_ret; exact Zdh (htkH.out.trans (if_neg (fun e => hfol e.2.2.2))) (Kz.below hJ hBz)
  ·rw [decide_eq_false hlab] at hcl
   have hLab : ∀ w1, Below w0.heap.size w0 w1 → Calls Tryd.prog 80 #[.slice vp vn vc] w1 fun e w' => e = .returned (.bool false) ∧ Below w1.heap.size w1 w' := fun w1 hJ =>
    Zbq hcl (Zcx w1) (gk w1 hJ) (rep1 (Zj5 (Zc2 hvz hJ)))
   refine wp_region_any (by kernel_rfl) ?_; rw [show ({ heap := wz.heap, tape := wz.tape, drawn := wz.drawn + 1, os := wz.os, output := wz.output } : World) = w0 from hw0]; refine Zcc (fun _ w' => Below w0.heap.size w0 w') [some (60, .pointer (some ⟨bx, 4, none⟩)), some (61, .pointer (some ⟨bx, 5, none⟩)), some (62, .slice vp vn vc), some (63, .bool false), some (64, .bool true), some (65, .bool true), some (66, undef), some (67, undef), some (68, undef), some (69, undef), some (70, undef), some (71, undef), some (72, undef), some (73, .bool true)] rfl (by show List.Nodup [60, 61, 62, 63, 64, 65, 66, 67, 68, 69, 70, 71, 72, 73]; decide) (by simp) hJ0 ?_ ?_ (Zd8 rfl)
   ·intro i o q listed act w1 ho hq hsee hl0 hls hdeps hJ
    match i, ho, hq, hl0 with
    | 0, ho, hq, hl0 => simp at ho hq; subst hq; subst ho; have e0 : act.tmps.getD 3 undef = _ := hsee.old 3 rfl; simp at e0; exact tA rfl (hJ) fun _ => by simp [goPut, Oper.wp, execOp, Act.eval, e0, go_sem]
    | 1, ho, hq, hl0 => simp at ho hq; subst hq; subst ho; have e0 := hsee.fu 0 60 rfl rfl; exact tA rfl (hJ) fun _ => by simp [goPut, Oper.wp, execOp, Act.eval, e0, go_sem]
    | 2, ho, hq, hl0 => simp at ho hq; subst hq; subst ho; have e0 := hsee.fu 1 61 rfl rfl; have c5 := Zaf hJ x5; exact tA rfl (hJ) fun _ => by simp [goPut, Oper.wp, execOp, Act.eval, e0, go_sem, c5]
    | 3, ho, hq, hl0 => simp at ho hq; subst hq; subst ho; have e0 := hsee.fu 2 62 rfl rfl; refine .inr ⟨rfl, fun K' hK' => ?_⟩; unfold Oper.wp; rw [show (execOp act.eval _).run Tryd.prog w1 = .ok (.enter 80 #[.slice vp vn vc]) w1 from by simp [Act.eval, e0, go_sem], Oper.upon_enter]; refine (hLab w1 hJ).mono ?_; rintro e w3 ⟨rfl, hb3⟩; exact hK' w3 (hJ.trans (hb3.mono hJ.size))
    | 4, ho, hq, hl0 => simp at ho hq; subst hq; subst ho; have e0 := hsee.fu 3 63 rfl rfl; exact tA rfl (hJ) fun _ => by simp [goPut, Oper.wp, execOp, Act.eval, e0, go_sem]
    | 5, ho, hq, hl0 => simp at ho hq; subst hq; subst ho; have e0 := hsee.fu 4 64 rfl rfl; exact tA rfl (hJ) fun _ => by simp [goPut, Oper.wp, execOp, Act.eval, e0, go_sem]
    | 6, ho, hq, hl0 => simp at ho hq; subst hq; subst ho; exact .inl ⟨Za7 (j := 5) (d := 65) (want := false) (b := true) rfl rfl rfl (hsee.full 5 65 _ rfl rfl) (by decide), rfl, hJ⟩
    | 7, ho, hq, hl0 => simp at ho hq; subst hq; subst ho; exact .inl ⟨Za7 (j := 5) (d := 65) (want := false) (b := true) rfl rfl rfl (hsee.full 5 65 _ rfl rfl) (by decide), rfl, hJ⟩
    | 8, ho, hq, hl0 => simp at ho hq; subst hq; subst ho; exact .inl ⟨Za7 (j := 5) (d := 65) (want := false) (b := true) rfl rfl rfl (hsee.full 5 65 _ rfl rfl) (by decide), rfl, hJ⟩
    | 9, ho, hq, hl0 => simp at ho hq; subst hq; subst ho; exact .inl ⟨Za7 (j := 5) (d := 65) (want := false) (b := true) rfl rfl rfl (hsee.full 5 65 _ rfl rfl) (by decide), rfl, hJ⟩
    | 10, ho, hq, hl0 => simp at ho hq; subst hq; subst ho; exact .inl ⟨Za7 (j := 5) (d := 65) (want := false) (b := true) rfl rfl rfl (hsee.full 5 65 _ rfl rfl) (by decide), rfl, hJ⟩
    | 11, ho, hq, hl0 => simp at ho hq; subst hq; subst ho; exact .inl ⟨Za7 (j := 5) (d := 65) (want := false) (b := true) rfl rfl rfl (hsee.full 5 65 _ rfl rfl) (by decide), rfl, hJ⟩
    | 12, ho, hq, hl0 => simp at ho hq; subst hq; subst ho; exact .inl ⟨Za7 (j := 5) (d := 65) (want := false) (b := true) rfl rfl rfl (hsee.full 5 65 _ rfl rfl) (by decide), rfl, hJ⟩
    | 13, ho, hq, hl0 => simp at ho hq; subst hq; subst ho; have e0 := hsee.fu 5 65 rfl rfl; exact tA rfl (hJ) fun _ => by simp [goPut, Oper.wp, execOp, Act.eval, e0, go_sem]
    | i + 14, ho, hq, hl0 => simp at ho
   ·intro listed w2 hall hJ; simp only [List.filterMap_cons, List.filterMap_nil, id, puts, Act.put, List.setIfInBounds_toArray, List.set_cons_succ, List.set_cons_zero]; go_wp2; go_ret; exact Zdh (htkH.out.trans (if_neg (fun e => hlab e.2.1))) (Kz.below hJ hBz)
 ·have n4 : (400 : Int) ≤ (p.1.ss.length : Int) := (by omega); go_wp2; go_ret; exact Zdh (htkH.out.trans (if_neg (fun e => h4 e.2.2.1))) K1.drew
end Go.Proofs.YtknnooannohflaaDoor.Prs
