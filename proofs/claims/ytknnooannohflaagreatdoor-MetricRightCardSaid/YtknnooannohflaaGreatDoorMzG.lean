/- Layer 26: what the document's families are made of. -/
import Derived.Test.YtknnooannohflaaGreatDoorMzD
import Derived.Test.YtknnooannohflaaGreatDoorMetR
namespace Go.Proofs.YtknnooannohflaaGreatDoor.Met
open Go Go.Px Go.Proofs Cmp Go.Proofs.YtknnooannohflaaGreatDoor.St
set_option maxRecDepth 100000
set_option linter.unusedVariables false

def psum (H : List Int) (k : Nat) : Int := (H.take k).sum
theorem psum_succ (H : List Int) {k : Nat} (h : k < H.length) : psum H (k + 1) = psum H k + H.getD k 0 := by
 unfold psum
 rw [List.take_add_one, List.getElem?_eq_getElem h, List.sum_append, List.getD_eq_getElem?_getD, List.getElem?_eq_getElem h]
 simp
theorem psum_le (H : List Int) (b : Int) (hb : ∀ z ∈ H, 0 ≤ z ∧ z ≤ b) : ∀ k : Nat, k ≤ H.length → 0 ≤ psum H k ∧ psum H k ≤ k * b := by
 intro k
 induction k with
 | zero => intro _; simp [psum]
 | succ k ih =>
  intro hk
  have h1 := ih (by omega)
  have h2 := hb (H.getD k 0) (by rw [List.getD_eq_getElem?_getD, List.getElem?_eq_getElem (by omega)]; exact List.getElem_mem _)
  rw [psum_succ H (by omega)]
  have e : ((k + 1 : Nat) : Int) * b = k * b + b := by rw [Int.natCast_add, Int.add_mul]; simp
  omega

def fillX (H : List Int) (x y : Int) : List Int := (List.range 9).map fun (j : Nat) => if (j : Int) < x then psum H (j + 1) else if (j : Int) = x then psum H y.toNat else 0
theorem fillX_get (H : List Int) (x y : Int) (h0 : 0 ≤ x) (h9 : x < 9) : aget (fillX H x y) x = psum H y.toNat := by
 unfold aget fillX
 rw [List.getD_eq_getElem?_getD, List.getElem?_map, List.getElem?_range (by omega)]
 simp only [Option.map_some, Option.getD_some]
 rw [if_neg (by omega), if_pos (by omega)]
theorem fillX_at (H : List Int) (x y : Int) {i : Nat} (h : i < (fillX H x y).length) : (fillX H x y)[i] = if (i : Int) < x then psum H (i + 1) else if (i : Int) = x then psum H y.toNat else 0 := by simp [fillX]
theorem fillX_next (H : List Int) (x y v : Int) (h0 : 0 ≤ y) (hv : v = psum H (y.toNat + 1)) : ((fillX H x y).mapIdx fun j z => apick z j x v) = fillX H x (y + 1) := by
 apply List.ext_getElem
 ·simp [fillX]
 ·intro i h1 h2
  rw [List.getElem_mapIdx, fillX_at, fillX_at, show (y + 1).toNat = y.toNat + 1 by omega]
  show (if x = (i : Int) then v else _) = _
  by_cases e : x = i
  ·subst e
   rw [if_pos rfl, if_neg (by omega), if_pos rfl, hv]
  ·have e2 : ¬ (i : Int) = x := fun h => e h.symm
   rw [if_neg e, if_neg e2, if_neg e2]
theorem fillX_done (H : List Int) (x : Int) (h0 : 0 ≤ x) : fillX H x (x + 1) = fillX H (x + 1) 0 := by
 unfold fillX
 apply List.map_congr_left
 intro j _
 by_cases h : (j : Int) < x
 ·rw [if_pos h, if_pos (by omega)]
 ·rw [if_neg h]
  by_cases e : (j : Int) = x
  ·rw [if_pos e, if_pos (by omega), show (x + 1).toNat = j + 1 by omega]
  ·rw [if_neg e, if_neg (by omega)]
   split <;> simp [psum]
theorem heldB {h : Int} (p : heldP h) : 0 ≤ h ∧ h ≤ 1099511627776 := by unfold heldP at p; omega

set_option maxHeartbeats 1000000 in
theorem r13below_fn (h0 h1 h2 h3 h4 h5 h6 h7 h8 hs : Int) (hp : hisP h0 h1 h2 h3 h4 h5 h6 h7 h8 hs) : Ct Tryz.prog 105 {} [.agg [I h0, I h1, I h2, I h3, I h4, I h5, I h6, I h7, I h8, I hs]] (fun r => r = [.agg [I (pre1 h0), I (pre2 h0 h1), I (pre3 h0 h1 h2), I (pre4 h0 h1 h2 h3), I (pre5 h0 h1 h2 h3 h4), I (pre6 h0 h1 h2 h3 h4 h5), I (pre7 h0 h1 h2 h3 h4 h5 h6), I (pre8 h0 h1 h2 h3 h4 h5 h6 h7), I (pre9 h0 h1 h2 h3 h4 h5 h6 h7 h8)]]) := by
 obtain ⟨H, hH⟩ : ∃ H, H = [h0, h1, h2, h3, h4, h5, h6, h7, h8, hs] := ⟨_, rfl⟩
 have hlen : H.length = 10 := by rw [hH]; rfl
 have hb : ∀ z ∈ H, 0 ≤ z ∧ z ≤ 1099511627776 := by
  obtain ⟨a0, a1, a2, a3, a4, a5, a6, a7, a8, a9⟩ := hp
  intro z hz
  rw [hH] at hz
  simp only [List.mem_cons, List.not_mem_nil, or_false] at hz
  rcases hz with rfl | rfl | rfl | rfl | rfl | rfl | rfl | rfl | rfl | rfl <;> exact heldB (by assumption)
 refine r13below_nf _ _ _ _ _ _ _ _ _ _ _ ⟨fun x x1 x2 x3 x4 x5 x6 x7 x8 x9 => (0 ≤ x ∧ x ≤ 9) ∧ [x1, x2, x3, x4, x5, x6, x7, x8, x9] = fillX H x 0, fun x _ _ _ _ _ _ _ _ _ => (9 - x).toNat, ⟨by omega, by simp [fillX, List.range, List.range.loop, psum]⟩, ?_⟩
 rintro x x1 x2 x3 x4 x5 x6 x7 x8 x9 ⟨⟨x0, xl⟩, hX⟩
 refine ifB_intro (fun hi => ?_) (fun hi => ?_)
 ·have hi : x < 9 := by simpa using hi
  refine Cl.of (rhright_fn h0 h1 h2 h3 h4 h5 h6 h7 h8 hs) ⟨_, rfl, ifB_intro (fun _ => ?_) (fun h => ?_)⟩
  ·refine ⟨fun y y1 y2 y3 y4 y5 y6 y7 y8 y9 => (0 ≤ y ∧ y ≤ x + 1) ∧ [y1, y2, y3, y4, y5, y6, y7, y8, y9] = fillX H x y, fun y _ _ _ _ _ _ _ _ _ => (x + 1 - y).toNat, ⟨by omega, hX⟩, ?_⟩
   rintro y y1 y2 y3 y4 y5 y6 y7 y8 y9 ⟨⟨y0, yl⟩, hY⟩
   refine ifB_intro (fun hj => ?_) (fun hj => ?_)
   ·have hj : y ≤ x := by simpa using hj
    have ev : wadd IntKind.i64 (aget [y1, y2, y3, y4, y5, y6, y7, y8, y9] x) (aget [h0, h1, h2, h3, h4, h5, h6, h7, h8, hs] y) = psum H (y.toNat + 1) := by
     rw [hY, fillX_get H x y x0 hi, ← hH]
     have h1 := psum_le H _ hb y.toNat (by omega)
     have h2 := psum_le H _ hb (y.toNat + 1) (by omega)
     have h3 := psum_succ H (k := y.toNat) (by omega)
     show wadd IntKind.i64 (psum H y.toNat) (H.getD y.toNat 0) = _
     rw [wadd_i64 (by omega) (by omega)]
     omega
    refine ⟨⟨x0, hi⟩, ⟨x0, hi⟩, ⟨y0, by omega⟩, ⟨y0, by omega⟩, ⟨x0, hi⟩, ⟨x0, hi⟩, rfl, ?_⟩
    rw [ev, wadd_i64 (by omega) (by omega)]
    refine ⟨⟨by omega, ?_⟩, mlt (by dsimp only; omega)⟩
    have := fillX_next H x y _ y0 rfl
    rw [← hY] at this
    exact this
   ·have hj : y = x + 1 := by
     have : ¬ y ≤ x := by simpa using hj
     omega
    subst hj
    rw [wadd_i64 (by omega) (by omega)]
    refine ⟨rfl, ⟨by omega, ?_⟩, mlt (by dsimp only; omega)⟩
    rw [hY, fillX_done H x x0]
  ·simp [hp] at h
 ·have hi : x = 9 := by
   have : ¬ x < 9 := by simpa using hi
   omega
  subst hi
  rw [hH] at hX
  simp [fillX, List.range, List.range.loop, psum] at hX
  obtain ⟨e1, e2, e3, e4, e5, e6, e7, e8, e9⟩ := hX
  rw [e1, e2, e3, e4, e5, e6, e7, e8, e9]
  simp only [pre1, pre2, pre3, pre4, pre5, pre6, pre7, pre8, pre9, Int.zero_add, Int.add_assoc]


theorem r11sum_fn (wd sl : Int) (l : List (Int × Int)) (hw : winP wd sl l) : Ct Tryz.prog 152 {} [.agg [I wd, I sl, SL 2 (cR l)]] (fun r => r = [.agg [I (s1 (nC l)), I (s2 (nC l))]]) := by
 have hr : rlen (cR l) = (l.length : Int) := by simp
 have hl : l.length ≤ 16 := hw.2.2.1.2
 have hc := hw.2.2.2
 have b1 := s1_bound l hc
 have b2 := s2_bound l hc
 refine r11sum_nf _ _ _ _ ⟨fun x a b => (0 ≤ x ∧ x ≤ l.length) ∧ a = (s1 ((nC l).take x.toNat) : Nat) ∧ b = (s2 ((nC l).take x.toNat) : Nat), fun x _ _ => (l.length - x).toNat, ⟨by omega, by simp [s1], by simp [s2]⟩, ?_⟩
 rintro x _ _ ⟨⟨x0, xl⟩, rfl, rfl⟩
 rw [hr]
 refine ifB_intro (fun hx => ?_) (fun hx => ?_)
 ·have hx : x < l.length := by simpa using hx
  have hi : x.toNat < l.length := by omega
  have hi' : x.toNat < (nC l).length := by simp; omega
  have t1 := s1_take (nC l) hi'
  have t2 := s2_take (nC l) hi'
  have u1 := s1_le (nC l) (x.toNat + 1)
  have u2 := s2_le (nC l) (x.toNat + 1)
  have hh := hc _ (List.getElem_mem hi)
  have e1 : ((nC l)[x.toNat].1 : Int) = l[x.toNat].1 := by
   have := hh.1; unfold heldP at this; simp only [nC, List.getElem_map]; omega
  have e2 : ((nC l)[x.toNat].2 : Int) = l[x.toNat].2 := by
   have := hh.2; unfold heldP at this; simp only [nC, List.getElem_map]; omega
  have hg : rget (cR l) x = [I ((nC l)[x.toNat].1 : Int), I ((nC l)[x.toNat].2 : Int)] := by rw [e1, e2]; simp [rget, hi]
  refine Cl.of (rwright_fn wd sl l) ⟨_, rfl, ifB_intro (fun _ => ?_) (fun h => ?_)⟩
  ·refine ⟨⟨x0, hx⟩, _, _, hg, ⟨x0, hx⟩, _, _, hg, rfl, ?_⟩
   rw [wadd_i64 (a := x) (by omega) (by omega), wadd_i64 (by omega) (by omega), wadd_i64 (by omega) (by omega)]
   have ei : (x + 1).toNat = x.toNat + 1 := by omega
   exact ⟨⟨by omega, by rw [ei]; omega, by rw [ei]; omega⟩, mlt (by dsimp only; omega)⟩
  ·simp [hw] at h
 ·have hx : l.length ≤ x := by simpa using hx
  have e : x.toNat = (nC l).length := by simp; omega
  rw [e, List.take_length]

theorem r11part_fn (wd sl : Int) (l : List (Int × Int)) (hw : winP wd sl l) : Ct Tryz.prog 106 {} [.agg [I wd, I sl, SL 2 (cR l)]] (fun r => r = [I (partI wd sl l)]) := by
 have hl : l.length ≤ 16 := hw.2.2.1.2
 have hc := hw.2.2.2
 have b1 := s1_bound l hc
 have b2 := s2_bound l hc
 refine r11part_nf _ _ _ _ (Cl.of (r11sum_fn wd sl l hw) ⟨_, _, rfl, ?_⟩)
 rw [wadd_i64 (by omega) (by omega)]
 unfold partI
 rw [if_pos hw]
 refine ifB_intro (fun h => ?_) (fun h => ?_)
 ·have h : (s1 (nC l) : Int) = 0 ∧ (s2 (nC l) : Int) = 0 := by
   by_cases h1 : (s1 (nC l) : Int) = 0 <;> by_cases h2 : (s2 (nC l) : Int) = 0 <;> simp_all [bpick]
  rw [if_pos (by omega)]
 ·have h : ¬ ((s1 (nC l) : Int) = 0 ∧ (s2 (nC l) : Int) = 0) := by
   rintro ⟨h1, h2⟩
   rw [h1, h2] at h
   cases h
  refine ⟨by omega, ?_⟩
  rw [if_neg (by omega)]
  push_cast
  rfl

def fixC (c : SV) : SV := match c with | .slice 0 [] 0 => .slice 1 [] 0 | c => c
theorem fixC_rep {h : Hp} {v : Value} {c : SV} (r : PRep h v c) : PRep h v (fixC c) := by
 unfold fixC
 split
 ·cases r with
  | empty p cap _ _ ht h1 hn => exact .empty p cap 1 0 ht h1 hn
  | slice b off cap _ _ _ vs hpos => exact absurd hpos (by decide)
 ·exact r
theorem fixL_rep {h : Hp} {v : Value} {z : Nat} {rows : List (List SV)} (r : PRep h v (.slice z rows 0)) : PRep h v (.slice z (rows.map (·.map fixC)) 0) := by
 cases r with
 | empty p cap _ _ ht h1 hn => exact .empty p cap z 0 ht h1 hn
 | slice b off cap _ _ _ vs hpos hz hh hr ho ht h1 hle =>
  have := PRep.slice (h := h) b off cap z (rows.map (·.map fixC)) 0 vs hpos (fun i r e => by
    rw [List.getElem?_map] at e
    obtain ⟨r0, e0, rfl⟩ := Option.map_eq_some_iff.1 e
    rw [List.length_map]; exact hz i r0 e0) (fun i r j c e1 e2 => by
    rw [List.getElem?_map] at e1
    obtain ⟨r0, e0, rfl⟩ := Option.map_eq_some_iff.1 e1
    rw [List.getElem?_map] at e2
    obtain ⟨c0, e3, rfl⟩ := Option.map_eq_some_iff.1 e2
    exact hh i r0 j c0 e0 e3) (fun i r j c e1 e2 => by
    rw [List.getElem?_map] at e1
    obtain ⟨r0, e0, rfl⟩ := Option.map_eq_some_iff.1 e1
    rw [List.getElem?_map] at e2
    obtain ⟨c0, e3, rfl⟩ := Option.map_eq_some_iff.1 e2
    exact fixC_rep (hr i r0 j c0 e0 e3)) (fun i r j c e1 e2 => by
    rw [List.getElem?_map] at e1
    obtain ⟨r0, e0, rfl⟩ := Option.map_eq_some_iff.1 e1
    rw [List.getElem?_map] at e2
    obtain ⟨c0, e3, rfl⟩ := Option.map_eq_some_iff.1 e2
    exact ho i r0 j c0 e0 e3) ht (fun e => absurd e (by decide)) (by rw [List.length_map]; exact hle)
  rw [List.length_map] at this
  exact this

theorem Ct.fixRows {P : Program} {f : FuncId} {args : List SV} {z : Nat} {rows : List (List SV)} (h : Ct P f {} args (fun r => r = [.slice z rows 0])) : Ct P f {} args (fun r => r = [.slice z (rows.map (·.map fixC)) 0]) := by
 refine ⟨h.1, fun hs objs ha hp ρ w vs h1 hg h2 => (h.2 hs objs ha hp ρ w vs h1 hg h2).mono ?_⟩
 rintro e w' ⟨vr, h', ρ', rs, hr, objs', e1, rfl, e2, e3, rest⟩
 refine ⟨vr, h', ρ', _, [.slice z (rows.map (·.map fixC)) 0], objs', e1, rfl, ?_⟩
 match vr, e2, e3 with
 | [], e2, _ => simp [endH, argsH, lentH] at e2
 | [v], e2, e3 =>
  simp [endH, argsH, lentH, argH, mdAt] at e2
  obtain ⟨rfl, rfl⟩ := e2
  refine ⟨by simp [endH, argsH, lentH, argH, mdAt], ⟨by simp, fun i v' s hv hs => ?_⟩, rest⟩
  have r := e3.2 0 v (.slice z rows 0) rfl rfl
  match i, hv, hs with
  | 0, hv, hs =>
   simp at hv hs
   subst hv hs
   exact .pure _ _ (fixL_rep r.slice_pure)
  | i + 1, hv, hs => simp at hs
 | a :: b :: l, e2, e3 =>
  simp [endH, argsH, lentH, argH, mdAt] at e2
  obtain ⟨rfl, rfl⟩ := e2
  have := e3.1
  simp at this

structure RwD where
 nm : ByteArray
 hp : ByteArray
 kd : Int
 rl : List Int
 lb : ByteArray
 vs : List ByteArray
abbrev txR (l : List ByteArray) : List (List SV) := l.map fun v => [S v]
abbrev RwD.row (r : RwD) : List SV := [S r.nm, S r.hp, I r.kd, SL 1 (rolR r.rl), S r.lb, SL 1 (txR r.vs)]
abbrev rwR (l : List RwD) : List (List SV) := l.map RwD.row
def rowsT : List RwD := [⟨fN0, fH0, 2, [2, 3], bA [], []⟩, ⟨fN1, fH1, 2, [2, 3], bA [], []⟩, ⟨fN2, fH2, 1, [1], fW2_0, [fW2_1, fW2_2, fW2_3]⟩, ⟨fN3, fH3, 2, [], bA [], []⟩,
 ⟨fN4, fH4, 3, [1, 3], bA [], []⟩, ⟨fN5, fH5, 1, [], bA [], []⟩, ⟨fN6, fH6, 2, [], bA [], []⟩, ⟨fN7, fH7, 1, [2], fW7_0, [fW7_1, fW7_2, fW7_3]⟩,
 ⟨fN8, fH8, 2, [1, 3], bA [], []⟩, ⟨fN9, fH9, 1, [3], fW9_0, [fW9_1, fW9_2, fW9_3]⟩, ⟨fN10, fH10, 2, [1], bA [], []⟩]

theorem rows_fn : Ct Tryz.prog 68 {} [] (fun r => r = [SL 6 (rwR rowsT)]) := Ct.fixRows (rrows_nf _ rfl)

def gaugeN (n : ByteArray) (c : CoD) : Int := if n = fN0 then c.rm else if n = fN1 then c.ha else if n = fN8 then c.mo else partI c.wd c.sl c.cl
def samD (r : RwD) (c : CoD) : List SmD :=
 if ¬ r.lb = bA [] then cnt3 r.nm r.lb (r.vs.getD 0 ByteArray.empty) (r.vs.getD 1 ByteArray.empty) (r.vs.getD 2 ByteArray.empty) c
 else if r.kd = 3 then hst11 r.nm c else [⟨r.nm, labs c [], gaugeN r.nm c⟩]

theorem sam_fn (r : RwD) (c : CoD) (hv : ¬ r.lb = bA [] → r.vs.length = 3) (hn : r.nm.size ≤ 1000) (hh : r.kd = 3 → c.his) (hw : winP c.wd c.sl c.cl ∨ (r.nm = fN0 ∨ r.nm = fN1 ∨ r.nm = fN8) ∨ ¬ r.lb = bA [] ∨ r.kd = 3) :
  Ct Tryz.prog 69 {} [.agg r.row, c.sv] (fun q => q = [SL 3 (smR (samD r c))]) := by
 refine rsamples_nf _ _ _ _ _ _ _ _ _ _ _ _ _ _ _ _ _ _ _ _ _ _ _ _ _ _ _ _ ?_
 rw [sne_d]
 refine ifB_intro (fun h => ?_) (fun h => ?_)
 ·have h : ¬ r.lb = bA [] := by simpa using h
  have h3 := hv h
  have es : samD r c = cnt3 r.nm r.lb (r.vs.getD 0 ByteArray.empty) (r.vs.getD 1 ByteArray.empty) (r.vs.getD 2 ByteArray.empty) c := by unfold samD; rw [if_pos h]
  refine ⟨fun l x => (0 ≤ x ∧ x ≤ 3) ∧ l = smR ((samD r c).take x.toNat), fun _ x => (3 - x).toNat, ⟨by omega, rfl⟩, ?_⟩
  rintro _ x ⟨⟨x0, xl⟩, rfl⟩
  have hlen : (samD r c).length = 3 := by rw [es]; rfl
  refine ifB_intro (fun hx => ?_) (fun hx => ?_)
  ·have hx : x < 3 := by simpa using hx
   have row := rget_mapI (fun v : ByteArray => [S v]) r.vs x x0 (by omega)
   have hg : r.vs[x.toNat]'(by omega) = r.vs.getD x.toNat ByteArray.empty := by rw [List.getD_eq_getElem?_getD, List.getElem?_eq_getElem (by omega)]; rfl
   rw [hg] at row
   refine ⟨⟨x0, by rw [rlen_eq, List.length_map]; omega⟩, _, row, ⟨x0, hx⟩, ?_⟩
   have key : ∀ (k : Nat) (hk : k < 3) (z : Int), x = (k : Int) → z = ((samD r c)[k]'(by omega)).v → ((samD r c)[k]'(by omega)).nm = r.nm → ((samD r c)[k]'(by omega)).ls = labs c [(r.lb, r.vs.getD k ByteArray.empty)] →
     (lsum (rlen (smR ((samD r c).take x.toNat))) (rlen [[S r.nm, SL 2 [[S comN, S c.nm], [S r.lb, S (r.vs.getD x.toNat ByteArray.empty)]], I z]]) ≤ 2147483648) ∧
     ((0 ≤ wadd .i64 x 1 ∧ wadd .i64 x 1 ≤ 3) ∧ rapp (smR ((samD r c).take x.toNat)) [[S r.nm, SL 2 [[S comN, S c.nm], [S r.lb, S (r.vs.getD x.toNat ByteArray.empty)]], I z]] = smR ((samD r c).take (wadd .i64 x 1).toNat)) ∧ Nat.le (Nat.succ (3 - wadd .i64 x 1).toNat) (3 - x).toNat := by
    rintro k hk z rfl rfl e1 e2
    rw [wadd_i64 (by omega) (by omega)]
    refine ⟨?_, ⟨by omega, ?_⟩, mlt (by omega)⟩
    ·have hle : ((samD r c).take ((k : Int)).toNat).length ≤ (samD r c).length := List.length_take_le' _ _
     rw [hlen] at hle
     show (((smR ((samD r c).take ((k : Int)).toNat)).length : Nat) : Int) + 1 ≤ _
     rw [List.length_map]; omega
    ·rw [Int.toNat_natCast, show ((k : Int) + 1).toNat = k + 1 by omega, List.take_add_one, List.getElem?_eq_getElem (by omega)]
     show _ = List.map SmD.row (_ ++ _)
     rw [List.map_append]
     show _ = _ ++ [SmD.row ((samD r c)[k]'(by omega))]
     unfold SmD.row
     rw [e1, e2]
     rfl
   exact ⟨fun e => ⟨(key 0 (by decide) _ e (by simp only [es]; rfl) (by simp only [es]; rfl) (by simp only [es]; rfl)).1, rfl, (key 0 (by decide) _ e (by simp only [es]; rfl) (by simp only [es]; rfl) (by simp only [es]; rfl)).2⟩,
    fun e => ⟨(key 1 (by decide) _ e (by simp only [es]; rfl) (by simp only [es]; rfl) (by simp only [es]; rfl)).1, rfl, (key 1 (by decide) _ e (by simp only [es]; rfl) (by simp only [es]; rfl) (by simp only [es]; rfl)).2⟩,
    fun e => ⟨(key 2 (by decide) _ e (by simp only [es]; rfl) (by simp only [es]; rfl) (by simp only [es]; rfl)).1, rfl, (key 2 (by decide) _ e (by simp only [es]; rfl) (by simp only [es]; rfl) (by simp only [es]; rfl)).2⟩, trivial⟩
  ·have hx : 3 ≤ x := by simpa using hx
   rw [List.take_of_length_le (by omega)]
 have h : r.lb = bA [] := by simpa using h
 refine ifB_intro (fun h3 => ?_) (fun h3 => ?_)
 ·have h3 : r.kd = 3 := by simpa using h3
  have es : samD r c = hst11 r.nm c := by unfold samD; rw [if_neg (fun e => e h), if_pos h3]
  refine Cl.of (r13below_fn _ _ _ _ _ _ _ _ _ _ (hh h3)) ⟨_, _, _, _, _, _, _, _, _, rfl, ?_⟩
  refine ⟨fun l x => (0 ≤ x ∧ x ≤ 9) ∧ l = smR ((bkt9 r.nm c).take x.toNat), fun _ x => (9 - x).toNat, ⟨by omega, rfl⟩, ?_⟩
  rintro _ x ⟨⟨x0, xl⟩, rfl⟩
  have hlen : (bkt9 r.nm c).length = 9 := rfl
  refine ifB_intro (fun hx => ?_) (fun hx => ?_)
  ·have hx : x < 9 := by simpa using hx
   refine ⟨by show (r.nm.size : Int) + ((7 : Nat) : Int) ≤ 9223372036854775807; omega, ⟨x0, hx⟩, ?_⟩
   have key : ∀ (k : Nat) (hk : k < 9) (z : Int), x = (k : Int) → (bkt9 r.nm c)[k]'(by omega) = ⟨r.nm ++ bucN, labs c [(leN, bnd k)], z⟩ →
     Cl Tryz.prog 97 sP [I x] fun rs1 => ∃ s, rs1 = [S s] ∧ (lsum (rlen (smR ((bkt9 r.nm c).take x.toNat))) (rlen [[S (scat r.nm bucN), SL 2 [[S comN, S c.nm], [S leN, S s]], I z]]) ≤ 2147483648) ∧
     (Option.some [[I (pre1 c.h0), I (pre2 c.h0 c.h1), I (pre3 c.h0 c.h1 c.h2), I (pre4 c.h0 c.h1 c.h2 c.h3), I (pre5 c.h0 c.h1 c.h2 c.h3 c.h4), I (pre6 c.h0 c.h1 c.h2 c.h3 c.h4 c.h5), I (pre7 c.h0 c.h1 c.h2 c.h3 c.h4 c.h5 c.h6), I (pre8 c.h0 c.h1 c.h2 c.h3 c.h4 c.h5 c.h6 c.h7), I (pre9 c.h0 c.h1 c.h2 c.h3 c.h4 c.h5 c.h6 c.h7 c.h8)], [S comN, S c.nm], CoD.row c, r.row] = Option.some [[I (pre1 c.h0), I (pre2 c.h0 c.h1), I (pre3 c.h0 c.h1 c.h2), I (pre4 c.h0 c.h1 c.h2 c.h3), I (pre5 c.h0 c.h1 c.h2 c.h3 c.h4), I (pre6 c.h0 c.h1 c.h2 c.h3 c.h4 c.h5), I (pre7 c.h0 c.h1 c.h2 c.h3 c.h4 c.h5 c.h6), I (pre8 c.h0 c.h1 c.h2 c.h3 c.h4 c.h5 c.h6 c.h7), I (pre9 c.h0 c.h1 c.h2 c.h3 c.h4 c.h5 c.h6 c.h7 c.h8)], [S comN, S c.nm], CoD.row c, r.row]) ∧
     ((0 ≤ wadd .i64 x 1 ∧ wadd .i64 x 1 ≤ 9) ∧ rapp (smR ((bkt9 r.nm c).take x.toNat)) [[S (scat r.nm bucN), SL 2 [[S comN, S c.nm], [S leN, S s]], I z]] = smR ((bkt9 r.nm c).take (wadd .i64 x 1).toNat)) ∧ Nat.le (Nat.succ (9 - wadd .i64 x 1).toNat) (9 - x).toNat := by
    rintro k hk z rfl e1
    refine Cl.of (le_fn k hk) ⟨_, rfl, ?_⟩
    rw [wadd_i64 (by omega) (by omega)]
    refine ⟨?_, rfl, ⟨by omega, ?_⟩, mlt (by omega)⟩
    ·have hle : ((bkt9 r.nm c).take ((k : Int)).toNat).length ≤ (bkt9 r.nm c).length := List.length_take_le' _ _
     rw [hlen] at hle
     show (((smR ((bkt9 r.nm c).take ((k : Int)).toNat)).length : Nat) : Int) + 1 ≤ _
     rw [List.length_map]; omega
    ·rw [Int.toNat_natCast, show ((k : Int) + 1).toNat = k + 1 by omega, List.take_add_one, List.getElem?_eq_getElem (by omega)]
     show _ = List.map SmD.row (_ ++ _)
     rw [List.map_append]
     show _ = _ ++ [SmD.row ((bkt9 r.nm c)[k]'(by omega))]
     rw [e1]
     rfl
   exact ⟨fun e => key 0 (by decide) _ e rfl, fun e => key 1 (by decide) _ e rfl, fun e => key 2 (by decide) _ e rfl, fun e => key 3 (by decide) _ e rfl, fun e => key 4 (by decide) _ e rfl, fun e => key 5 (by decide) _ e rfl, fun e => key 6 (by decide) _ e rfl, fun e => key 7 (by decide) _ e rfl, fun e => key 8 (by decide) _ e rfl, trivial⟩
  ·have hx : 9 ≤ x := by simpa using hx
   rw [List.take_of_length_le (by omega)]
   refine ⟨by show (r.nm.size : Int) + ((4 : Nat) : Int) ≤ 9223372036854775807; omega, by show ((9 : Nat) : Int) + ((1 : Nat) : Int) ≤ 2147483648; decide, by show (r.nm.size : Int) + ((6 : Nat) : Int) ≤ 9223372036854775807; omega, by show ((10 : Nat) : Int) + ((1 : Nat) : Int) ≤ 2147483648; decide, ?_⟩
   rw [es]
   rfl
 have h3 : ¬ r.kd = 3 := by simpa using h3
 have es : samD r c = [⟨r.nm, labs c [], gaugeN r.nm c⟩] := by unfold samD; rw [if_neg (fun e => e h), if_neg h3]
 rw [es, seq_d, seq_d, seq_d]
 refine ifB_intro (fun h0 => ?_) (fun h0 => ifB_intro (fun h1 => ?_) (fun h1 => ifB_intro (fun h8 => ?_) (fun h8 => ?_)))
 ·have h0 : r.nm = fN0 := of_decide_eq_true h0
  have : gaugeN r.nm c = c.rm := by unfold gaugeN; rw [if_pos h0]
  rw [this]; rfl
 ·have h0 : ¬ r.nm = fN0 := of_decide_eq_false h0
  have h1 : r.nm = fN1 := of_decide_eq_true h1
  have : gaugeN r.nm c = c.ha := by unfold gaugeN; rw [if_neg h0, if_pos h1]
  rw [this]; rfl
 ·have h0 : ¬ r.nm = fN0 := of_decide_eq_false h0
  have h1 : ¬ r.nm = fN1 := of_decide_eq_false h1
  have h8 : r.nm = fN8 := of_decide_eq_true h8
  have : gaugeN r.nm c = c.mo := by unfold gaugeN; rw [if_neg h0, if_neg h1, if_pos h8]
  rw [this]; rfl
 ·have h0 : ¬ r.nm = fN0 := of_decide_eq_false h0
  have h1 : ¬ r.nm = fN1 := of_decide_eq_false h1
  have h8 : ¬ r.nm = fN8 := of_decide_eq_false h8
  have : gaugeN r.nm c = partI c.wd c.sl c.cl := by unfold gaugeN; rw [if_neg h0, if_neg h1, if_neg h8]
  have hw2 : winP c.wd c.sl c.cl := by
   rcases hw with hw | (hw | hw | hw) | hw | hw
   ·exact hw
   ·exact absurd hw h0
   ·exact absurd hw h1
   ·exact absurd hw h8
   ·exact absurd h hw
   ·exact absurd hw h3
  rw [this]
  exact Cl.of (r11part_fn _ _ _ hw2) ⟨_, rfl, rfl⟩


def singN (n : ByteArray) (d : StD) : Int := if n = fN6 then d.t else if n = fN3 then (d.cs.length : Nat) else d.q
def baseR (r : RwD) (d : StD) : List SmD := if r.rl = [] then [⟨r.nm, [], singN r.nm d⟩] else []
def gR1 (r : RwD) (c : CoD) (q : Int) : List SmD := if c.ro = q then samD r c else []
def gR (r : RwD) (c : CoD) : List SmD := r.rl.flatMap (gR1 r c)
def famR (d : StD) (r : RwD) : FaD := ⟨r.nm, r.hp, r.kd, baseR r d ++ d.cs.flatMap (gR r)⟩

theorem ofR_flat {β : Type} (cs : List CoD) (roles : List Int) (g : CoD → List β) : (ofR cs roles).flatMap g = cs.flatMap fun c => roles.flatMap fun q => if c.ro = q then g c else [] := by
 unfold ofR
 rw [List.flatMap_assoc]
 congr 1
 funext c
 unfold ofC
 rw [List.flatMap_assoc]
 congr 1
 funext q
 split <;> simp
theorem ofR_map {β : Type} (cs : List CoD) (roles : List Int) (g : CoD → β) : (ofR cs roles).map g = cs.flatMap fun c => roles.flatMap fun q => if c.ro = q then [g c] else [] := by
 have := ofR_flat cs roles (fun c => [g c])
 rw [← this, List.flatMap_def, List.map_congr_left (g := fun c => [g c]) (fun _ _ => rfl)]
 induction ofR cs roles with
 | nil => rfl
 | cons a l ih => simp [ih]

theorem fam_gauge (d : StD) (n hp : ByteArray) (roles : List Int) (hr : roles ≠ []) (f : CoD → Int) (hf : ∀ c, gaugeN n c = f c) : famR d ⟨n, hp, 2, roles, bA [], []⟩ = gaugeF n hp d.cs roles f := by
 unfold famR gaugeF baseR
 rw [if_neg hr, ofR_map]
 have : ∀ c, samD ⟨n, hp, 2, roles, bA [], []⟩ c = [⟨n, labs c [], f c⟩] := fun c => by
  unfold samD
  rw [if_neg (fun h => h rfl), if_neg (by decide : ¬ (2 : Int) = 3), hf]
 refine congrArg (FaD.mk n hp 2) ((List.nil_append _).trans (congrArg (fun g => List.flatMap g d.cs) (funext fun c => ?_)))
 show List.flatMap (fun q => if c.ro = q then samD _ c else []) roles = _
 rw [this c]
theorem fam_counter (d : StD) (n hp lb v0 v1 v2 : ByteArray) (role : Int) (hb : ¬ lb = bA []) : famR d ⟨n, hp, 1, [role], lb, [v0, v1, v2]⟩ = counterF n hp d.cs role lb v0 v1 v2 := by
 unfold famR counterF baseR
 rw [if_neg (by simp), ofR_flat]
 have : ∀ c, samD ⟨n, hp, 1, [role], lb, [v0, v1, v2]⟩ c = cnt3 n lb v0 v1 v2 c := fun c => by
  unfold samD
  rw [if_pos hb]
  rfl
 refine congrArg (FaD.mk n hp 1) ((List.nil_append _).trans (congrArg (fun g => List.flatMap g d.cs) (funext fun c => ?_)))
 show List.flatMap (fun q => if c.ro = q then samD _ c else []) [role] = _
 rw [this c]
theorem fam_hist (d : StD) (n hp : ByteArray) (roles : List Int) (hr : roles ≠ []) : famR d ⟨n, hp, 3, roles, bA [], []⟩ = histF n hp d.cs roles := by
 unfold famR histF baseR
 rw [if_neg hr, ofR_flat]
 have : ∀ c, samD ⟨n, hp, 3, roles, bA [], []⟩ c = hst11 n c := fun c => by
  unfold samD
  rw [if_neg (fun h => h rfl), if_pos rfl]
 refine congrArg (FaD.mk n hp 3) ((List.nil_append _).trans (congrArg (fun g => List.flatMap g d.cs) (funext fun c => ?_)))
 show List.flatMap (fun q => if c.ro = q then samD _ c else []) roles = _
 rw [this c]
theorem fam_single (d : StD) (n hp : ByteArray) (k : Int) : famR d ⟨n, hp, k, [], bA [], []⟩ = singleF n hp k (singN n d) := by
 unfold famR singleF baseR
 rw [if_pos rfl]
 have : (d.cs.flatMap fun c => gR ⟨n, hp, k, [], bA [], []⟩ c) = [] := by
  simp [gR]
 rw [this]
 rfl

theorem fam_all (d : StD) : rowsT.map (famR d) = allF d := by
 unfold rowsT allF
 simp only [List.map_cons, List.map_nil]
 rw [fam_gauge d fN0 fH0 [2, 3] (by simp) CoD.rm (fun c => by unfold gaugeN; rw [if_pos rfl]),
  fam_gauge d fN1 fH1 [2, 3] (by simp) CoD.ha (fun c => by unfold gaugeN; rw [if_neg (by decide), if_pos rfl]),
  fam_counter d fN2 fH2 _ _ _ _ 1 (by decide), fam_single d fN3 fH3 2, fam_hist d fN4 fH4 [1, 3] (by simp), fam_single d fN5 fH5 1, fam_single d fN6 fH6 2,
  fam_counter d fN7 fH7 _ _ _ _ 2 (by decide), fam_gauge d fN8 fH8 [1, 3] (by simp) CoD.mo (fun c => by unfold gaugeN; rw [if_neg (by decide), if_neg (by decide), if_pos rfl]),
  fam_counter d fN9 fH9 _ _ _ _ 3 (by decide), fam_gauge d fN10 fH10 [1] (by simp) (fun c => partI c.wd c.sl c.cl) (fun c => by unfold gaugeN; rw [if_neg (by decide), if_neg (by decide), if_neg (by decide)])]
 have e3 : singN fN3 d = (d.cs.length : Nat) := by unfold singN; rw [if_neg (by decide), if_pos rfl]
 have e5 : singN fN5 d = d.q := by unfold singN; rw [if_neg (by decide), if_neg (by decide)]
 have e6 : singN fN6 d = d.t := by unfold singN; rw [if_pos rfl]
 rw [e3, e5, e6]

def rowOK (r : RwD) : Prop := (¬ r.lb = bA [] → r.vs.length = 3) ∧ r.nm.size ≤ 1000 ∧ r.rl.length ≤ 2 ∧ (r.kd = 3 → ∀ q ∈ r.rl, q = 1 ∨ q = 3) ∧
 ((∀ q ∈ r.rl, q = 1) ∨ (r.nm = fN0 ∨ r.nm = fN1 ∨ r.nm = fN8) ∨ ¬ r.lb = bA [] ∨ r.kd = 3)
instance (r : RwD) : Decidable (rowOK r) := inferInstanceAs (Decidable (_ ∧ _ ∧ _ ∧ _ ∧ _))
theorem rowsT_ok : ∀ r ∈ rowsT, rowOK r := by decide +kernel

theorem samD_len (r : RwD) (c : CoD) : (samD r c).length ≤ 11 := by
 unfold samD
 split
 ·simp [cnt3]
 ·split
  ·simp [hst11, bkt9, tot2]
  ·simp
theorem gR1_len (r : RwD) (c : CoD) (q : Int) : (gR1 r c q).length ≤ 11 := by
 unfold gR1
 split
 ·exact samD_len r c
 ·simp
theorem baseR_len (r : RwD) (d : StD) : (baseR r d).length ≤ 1 := by unfold baseR; split <;> simp

theorem take_flat {α β : Type} (l : List α) (f : α → List β) {i : Nat} (h : i < l.length) : (l.take (i + 1)).flatMap f = (l.take i).flatMap f ++ f l[i] := flat_take l f h

set_option maxHeartbeats 1000000 in
theorem rof_fn (d : StD) (hp : d.P) : Ct Tryz.prog 33 {} [d.sv] (fun r => r = [SL 4 (faR (famsOf d))]) := by
 have hcl : d.cs.length ≤ 12 := hp.1.1
 have hro : ∀ c ∈ d.cs, c.P := hp.2.1
 refine rof_nf _ _ _ _ (Cl.of rows_fn ⟨_, rfl, ?_⟩)
 have hT : rowsT.length = 11 := rfl
 refine ⟨fun x l1 => (0 ≤ x ∧ x ≤ 11) ∧ l1 = faR (((rowsT.take x.toNat).map (famR d)).filter fun f => decide (0 < f.ss.length)), fun x _ => (11 - x).toNat, ⟨by omega, rfl⟩, ?_⟩
 rintro x _ ⟨⟨x0, xl⟩, rfl⟩
 rw [rlen_eq, List.length_map, hT]
 refine ifB_intro (fun hx => ?_) (fun hx => ?_)
 ·have hx : x < 11 := by simpa using hx
  have hx' : x.toNat < rowsT.length := by omega
  obtain ⟨r, hr⟩ : ∃ r, r = rowsT[x.toNat] := ⟨_, rfl⟩
  have row := rget_mapI RwD.row rowsT x x0 (by rw [hT]; exact hx)
  rw [← hr] at row
  obtain ⟨ok1, ok2, ok3, ok4, ok5⟩ := rowsT_ok r (by rw [hr]; exact List.getElem_mem hx')
  refine ⟨⟨x0, hx⟩, _, _, _, _, _, _, row, ?_⟩
  refine ⟨fun s s1 k l => s = r.nm ∧ s1 = r.hp ∧ k = r.kd ∧ l = smR (baseR r d), fun _ _ _ _ => 0, ?_, ?_⟩
  ·rw [rlen_eq, List.length_map]
   refine ifB_intro (fun h => ?_) (fun h => ?_)
   ·have h : r.rl = [] := by
     have : (r.rl.length : Int) = 0 := by simpa using h
     exact List.length_eq_zero_iff.1 (by omega)
    have hb : baseR r d = [⟨r.nm, [], singN r.nm d⟩] := by unfold baseR; rw [if_pos h]
    rw [hb, seq_d, seq_d]
    refine ifB_intro (fun h3 => ifB_intro (fun h6 => ?_) (fun h6 => ?_)) (fun h3 => ifB_intro (fun h6 => ?_) (fun h6 => ?_))
    ·have h6 : r.nm = fN6 := of_decide_eq_true h6
     have : singN r.nm d = d.t := by unfold singN; rw [if_pos h6]
     rw [this]; exact ⟨rfl, rfl, rfl, rfl, rfl⟩
    ·have h6 : ¬ r.nm = fN6 := of_decide_eq_false h6
     have h3 : r.nm = fN3 := of_decide_eq_true h3
     have : singN r.nm d = rlen (coR d.cs) := by unfold singN; rw [if_neg h6, if_pos h3, rlen_eq, List.length_map]
     rw [this]; exact ⟨rfl, rfl, rfl, rfl, rfl⟩
    ·have h6 : r.nm = fN6 := of_decide_eq_true h6
     have : singN r.nm d = d.t := by unfold singN; rw [if_pos h6]
     rw [this]; exact ⟨rfl, rfl, rfl, rfl, rfl⟩
    ·have h6 : ¬ r.nm = fN6 := of_decide_eq_false h6
     have h3 : ¬ r.nm = fN3 := of_decide_eq_false h3
     have : singN r.nm d = d.q := by unfold singN; rw [if_neg h6, if_neg h3]
     rw [this]; exact ⟨rfl, rfl, rfl, rfl, rfl⟩
   ·have h : ¬ r.rl = [] := fun e => by rw [e] at h; simp at h
    have hb : baseR r d = [] := by unfold baseR; rw [if_neg h]
    rw [hb]
    exact ⟨rfl, rfl, rfl, rfl, rfl⟩
  rintro _ _ _ _ ⟨rfl, rfl, rfl, rfl⟩
  have bl := baseR_len r d
  have tl : ∀ k : Nat, ((d.cs.take k).flatMap (gR r)).length ≤ 300 := fun k => by
   have h1 := flat_len (d.cs.take k) (gR r) 22 (fun c _ => by
    have := flat_len r.rl (gR1 r c) 11 (fun q _ => gR1_len r c q)
    unfold gR; omega)
   have h2 : (d.cs.take k).length ≤ d.cs.length := List.length_take_le' _ _
   omega
  refine ⟨fun k s s1 kd l => (0 ≤ k ∧ k ≤ d.cs.length) ∧ s = r.nm ∧ s1 = r.hp ∧ kd = r.kd ∧ l = smR (baseR r d ++ (d.cs.take k.toNat).flatMap (gR r)), fun k _ _ _ _ => (d.cs.length - k).toNat, ⟨by omega, rfl, rfl, rfl, by simp⟩, ?_⟩
  rintro k _ _ _ _ ⟨⟨k0, kl⟩, rfl, rfl, rfl, rfl⟩
  rw [rlen_eq (coR d.cs), List.length_map]
  refine ifB_intro (fun hk => ?_) (fun hk => ?_)
  ·have hk : k < d.cs.length := by simpa using hk
   have hk' : k.toNat < d.cs.length := by omega
   obtain ⟨c, hc⟩ : ∃ c, c = d.cs[k.toNat] := ⟨_, rfl⟩
   have hcm : c ∈ d.cs := by rw [hc]; exact List.getElem_mem hk'
   have rowc := rget_mapI CoD.row d.cs k k0 hk
   rw [← hc] at rowc
   have tk := tl k.toNat
   refine ⟨fun m s s1 kd l => (0 ≤ m ∧ m ≤ r.rl.length) ∧ s = r.nm ∧ s1 = r.hp ∧ kd = r.kd ∧ l = smR (baseR r d ++ (d.cs.take k.toNat).flatMap (gR r) ++ (r.rl.take m.toNat).flatMap (gR1 r c)), fun m _ _ _ _ => (r.rl.length - m).toNat, ⟨by omega, rfl, rfl, rfl, by simp⟩, ?_⟩
   rintro m _ _ _ _ ⟨⟨m0, ml⟩, rfl, rfl, rfl, rfl⟩
   rw [rlen_eq (rolR r.rl), List.length_map]
   refine ifB_intro (fun hm => ?_) (fun hm => ?_)
   ·have hm : m < r.rl.length := by simpa using hm
    have hm' : m.toNat < r.rl.length := by omega
    have rowq := rget_mapI (fun q : Int => [I q]) r.rl m m0 hm
    have em : (m + 1).toNat = m.toNat + 1 := by omega
    have tf := take_flat r.rl (gR1 r c) hm'
    rw [wadd_i64 (by omega) (by omega)]
    refine ⟨⟨k0, hk⟩, _, _, _, _, _, _, _, _, _, _, _, _, _, _, _, _, _, _, _, _, _, rowc, ⟨m0, hm⟩, _, rowq, ifB_intro (fun h => ?_) (fun h => ?_)⟩
    ·have h : c.ro = r.rl[m.toNat] := by simpa using h
     have hq : r.rl[m.toNat] ∈ r.rl := List.getElem_mem hm'
     have eg : gR1 r c r.rl[m.toNat] = samD r c := by unfold gR1; rw [if_pos h]
     refine ⟨⟨k0, hk⟩, _, _, _, _, _, _, _, _, _, _, _, _, _, _, _, _, _, _, _, _, _, rowc, Cl.of (sam_fn r c ok1 ok2 (fun h3 => his_of (hro c hcm) (by
      rw [h]
      rcases ok4 h3 _ hq with e | e <;> simp [e])) ?_) ⟨_, rfl, ?_, rfl, ⟨by omega, rfl, rfl, rfl, ?_⟩, mlt (by dsimp only; omega)⟩⟩
     ·rcases ok5 with ok5 | ok5
      ·exact .inl (win_of (hro c hcm) (by rw [h, ok5 _ hq]))
      ·exact .inr ok5
     ·have h1 := samD_len r c
      have h2 := flat_len (r.rl.take m.toNat) (gR1 r c) 11 (fun q _ => gR1_len r c q)
      have h3 : (r.rl.take m.toNat).length ≤ r.rl.length := List.length_take_le' _ _
      rw [rlen_eq, rlen_eq, List.length_map, List.length_map, List.length_append, List.length_append]
      show _ + _ ≤ _
      omega
     ·rw [em, tf, eg, ← List.append_assoc]
      show smR _ ++ smR _ = _
      rw [← List.map_append]
    ·have h : ¬ c.ro = r.rl[m.toNat] := by simpa using h
     have eg : gR1 r c r.rl[m.toNat] = [] := by unfold gR1; rw [if_neg h]
     refine ⟨rfl, ⟨by omega, rfl, rfl, rfl, ?_⟩, mlt (by dsimp only; omega)⟩
     rw [em, tf, eg, List.append_nil]
   ·have hm : r.rl.length ≤ m := by simpa using hm
    have ek : (k + 1).toNat = k.toNat + 1 := by omega
    rw [wadd_i64 (by omega) (by omega)]
    refine ⟨rfl, ⟨by omega, rfl, rfl, rfl, ?_⟩, mlt (by dsimp only; omega)⟩
    have e3 : r.rl.take m.toNat = r.rl := List.take_of_length_le (by omega)
    rw [ek, take_flat d.cs (gR r) hk', ← hc, e3, List.append_assoc]
    rfl
  ·have hk : d.cs.length ≤ k := by simpa using hk
   rw [List.take_of_length_le (by omega)]
   have ex : (x + 1).toNat = x.toNat + 1 := by omega
   have et : ((rowsT.take (x + 1).toNat).map (famR d)).filter (fun f => decide (0 < f.ss.length)) = ((rowsT.take x.toNat).map (famR d)).filter (fun f => decide (0 < f.ss.length)) ++ [famR d r].filter (fun f => decide (0 < f.ss.length)) := by
    rw [ex, List.take_add_one, List.getElem?_eq_getElem hx', List.map_append, List.filter_append, ← hr]
    rfl
   rw [wadd_i64 (by omega) (by omega), rlen_eq, List.length_map]
   have hss : (famR d r).ss = baseR r d ++ d.cs.flatMap (gR r) := rfl
   refine ifB_intro (fun h => ?_) (fun h => ?_)
   ·have h : 0 < (baseR r d ++ d.cs.flatMap (gR r)).length := by
     have : 0 < (((baseR r d ++ d.cs.flatMap (gR r)).length : Nat) : Int) := by simpa only [igt_eq, decide_eq_true_iff] using h
     omega
    have ef : [famR d r].filter (fun f => decide (0 < f.ss.length)) = [famR d r] := by
     rw [List.filter_cons, hss, decide_eq_true h]; rfl
    refine ⟨?_, rfl, ⟨by omega, ?_⟩, mlt (by dsimp only; omega)⟩
    ·have h1 : (((rowsT.take x.toNat).map (famR d)).filter fun f => decide (0 < f.ss.length)).length ≤ 11 := by
      refine Nat.le_trans (List.length_filter_le _ _) ?_
      rw [List.length_map]
      exact List.length_take_le' _ _
     rw [rlen_eq, List.length_map]
     show _ + ((1 : Nat) : Int) ≤ _
     omega
    ·rw [et, ef]
     show faR _ ++ [FaD.row (famR d r)] = List.map FaD.row _
     rw [List.map_append]
     rfl
   ·have h : ¬ 0 < (baseR r d ++ d.cs.flatMap (gR r)).length := by
     have : ¬ 0 < (((baseR r d ++ d.cs.flatMap (gR r)).length : Nat) : Int) := by simpa only [igt_eq, decide_eq_false_iff_not] using h
     omega
    have ef : [famR d r].filter (fun f => decide (0 < f.ss.length)) = [] := by
     rw [List.filter_cons, hss, decide_eq_false h]; rfl
    exact ⟨rfl, ⟨by omega, by rw [et, ef, List.append_nil]⟩, mlt (by dsimp only; omega)⟩
 ·have hx : 11 ≤ x := by simpa using hx
  rw [List.take_of_length_le (by omega), fam_all]
  rfl

end Go.Proofs.YtknnooannohflaaGreatDoor.Met
