/- Layer 26: the third law over plain data. -/
import Derived.Test.YtknnooannohflaaDoorMetG
import Derived.Test.YtknnooannohflaaDoorMetN4
namespace Go.Proofs.YtknnooannohflaaDoor.Met
open Go Go.Px Go.Proofs Go.Proofs.YtknnooannohflaaDoor.Cmp Go.Proofs.YtknnooannohflaaDoor.St
set_option maxRecDepth 100000
set_option linter.unusedVariables false

def flOf (d : StD) : List FaD := if d.P then famsOf d else []
def fcOf (d : StD) : Int := if d.P then 0 else 1
def ofRes (d : StD) : List SV := [SL 4 (faR (flOf d)), I (fcOf d)]

def fit (f : FaD) : Prop := f.ss.length ≤ 22000 ∧ ∀ x ∈ f.ss, x.ls.length ≤ 2
theorem fit_flat (n hp : ByteArray) (ty : Int) (cs : List CoD) (roles : List Int) (g : CoD → List SmD) (hl : cs.length ≤ 1000) (hr : roles.length ≤ 2) (hg : ∀ c, (g c).length ≤ 11 ∧ ∀ x ∈ g c, x.ls.length ≤ 2) :
  fit ⟨n, hp, ty, (ofR cs roles).flatMap g⟩ := by
 have hb : (ofR cs roles).length ≤ 2000 := Nat.le_trans (ofR_len cs roles) (Nat.le_trans (Nat.mul_le_mul hl hr) (by decide))
 constructor
 ·exact Nat.le_trans (flat_len _ _ 11 fun c _ => (hg c).1) (by omega)
 ·intro x hx
  obtain ⟨c, _, hx⟩ := List.mem_flatMap.1 hx
  exact (hg c).2 x hx
theorem fit_gauge (n hp : ByteArray) (cs : List CoD) (roles : List Int) (f : CoD → Int) (hl : cs.length ≤ 1000) (hr : roles.length ≤ 2) : fit (gaugeF n hp cs roles f) := by
 have hb : (ofR cs roles).length ≤ 2000 := Nat.le_trans (ofR_len cs roles) (Nat.le_trans (Nat.mul_le_mul hl hr) (by decide))
 constructor
 ·show ((ofR cs roles).map _).length ≤ 22000
  rw [List.length_map]; omega
 ·intro x hx
  obtain ⟨c, _, rfl⟩ := List.mem_map.1 hx
  simp [labs]
theorem fit_cnt (n lb v0 v1 v2 : ByteArray) (c : CoD) : (cnt3 n lb v0 v1 v2 c).length ≤ 11 ∧ ∀ x ∈ cnt3 n lb v0 v1 v2 c, x.ls.length ≤ 2 := by
 constructor
 ·simp [cnt3]
 ·intro x hx
  simp only [cnt3, List.mem_cons, List.not_mem_nil, or_false] at hx
  rcases hx with rfl | rfl | rfl <;> simp [labs]
theorem fit_hst (n : ByteArray) (c : CoD) : (hst11 n c).length ≤ 11 ∧ ∀ x ∈ hst11 n c, x.ls.length ≤ 2 := by
 constructor
 ·simp [hst11, bkt9, tot2]
 ·intro x hx
  simp only [hst11, bkt9, tot2, List.cons_append, List.nil_append, List.mem_cons, List.not_mem_nil, or_false] at hx
  rcases hx with rfl | rfl | rfl | rfl | rfl | rfl | rfl | rfl | rfl | rfl | rfl <;> simp [labs]
theorem fit_single (n hp : ByteArray) (k x : Int) : fit (singleF n hp k x) := ⟨by simp [singleF], fun y hy => by simp [singleF] at hy; subst hy; simp⟩
theorem allF_fit {d : StD} (hl : d.cs.length ≤ 1000) : ∀ f ∈ allF d, fit f := by
 intro f hf
 simp only [allF, List.mem_cons, List.not_mem_nil, or_false] at hf
 rcases hf with rfl | rfl | rfl | rfl | rfl | rfl | rfl | rfl | rfl | rfl | rfl
 ·exact fit_gauge _ _ _ _ _ hl (by decide)
 ·exact fit_gauge _ _ _ _ _ hl (by decide)
 ·exact fit_flat _ _ _ _ _ _ hl (by decide) (fit_cnt _ _ _ _ _)
 ·exact fit_single _ _ _ _
 ·exact fit_flat _ _ _ _ _ _ hl (by decide) (fit_hst _)
 ·exact fit_single _ _ _ _
 ·exact fit_single _ _ _ _
 ·exact fit_flat _ _ _ _ _ _ hl (by decide) (fit_cnt _ _ _ _ _)
 ·exact fit_gauge _ _ _ _ _ hl (by decide)
 ·exact fit_flat _ _ _ _ _ _ hl (by decide) (fit_cnt _ _ _ _ _)
 ·exact fit_gauge _ _ _ _ _ hl (by decide)
theorem fams_fit {d : StD} (hl : d.cs.length ≤ 1000) : ∀ f ∈ famsOf d, fit f := fun f hf => allF_fit hl f (List.mem_filter.1 hf).1
theorem fams_len (d : StD) : (famsOf d).length ≤ 11 := Nat.le_trans (List.length_filter_le _ _) (by rw [allF_len]; decide)
theorem fit_ok {f : FaD} (h : fit f) : f.ok := ⟨Nat.le_trans h.1 (by decide), fun x hx => Nat.le_trans (h.2 x hx) (by decide)⟩

theorem any_snoc {α : Type} (l : List α) (p : α → Bool) {i : Nat} (h : i < l.length) : (l.take (i + 1)).any p = ((l.take i).any p || p l[i]) := by
 rw [List.take_add_one, List.getElem?_eq_getElem h, List.any_append]; simp

def goodB (x y : SmD) : Bool := decide (x.nm = y.nm ∧ x.ls = y.ls ∧ x.v ≤ y.v)

theorem law7_fn (hof : ∀ d : StD, d.cs.length ≤ 1000 → Ct Tryd.prog 25 {} [d.sv] (fun r => r = ofRes d)) (haw : Ct Tryd.prog 22 {} [] (fun r => r = [B true]))
  (d : StD) (hl : d.cs.length ≤ 9223372036854775807) (e : EvD) : Ct Tryd.prog 7 {} [d.sv, e.sv] (fun r => r = [B true]) := by
 refine mlaw7_nf _ _ _ _ _ _ _ _ _ _ _ (Cl.of haw ⟨_, rfl, ifB_intro (fun h => by cases h) (fun _ => Cl.of (sshort_fn d hl) ⟨_, rfl, ifB_intro (fun h => rfl) (fun h => ?_)⟩)⟩)
 have hs : d.short := by
  have := (bor_f.1 h).1
  simpa [bnot] using this
 have hl2 : d.cs.length ≤ 20 := hs.2
 refine Cl.of (sapply_fn d (by omega) e) ⟨_, _, _, _, rfl, ?_⟩
 by_cases h0 : (appS d e).2 = 0
 case neg =>
  have ea := app_err h0
  rw [ea] at h0 ⊢
  have h0 : mayS d e ≠ 0 := h0
  refine Cl.of (hof d (by omega)) ⟨_, _, rfl, Cl.of (hof d (by omega)) ⟨_, _, rfl, ifB_intro (fun _ => ifB_intro (fun _ => ?_) (fun h => ?_)) (fun h => ?_)⟩⟩
  ·have hf : ∀ f ∈ flOf d, f.ok := by
    intro f hf
    unfold flOf at hf
    split at hf
    ·exact fit_ok (fams_fit (by omega) f hf)
    ·cases hf
   have hfl : (flOf d).length ≤ 1000000 := by
    unfold flOf
    split
    ·exact Nat.le_trans (fams_len d) (by decide)
    ·simp
   refine Cl.of (same_fn (flOf d) (flOf d) hfl hf) ⟨_, rfl, by simp⟩
  ·simp [ieq] at h
  ·simp [ine] at h; exact absurd h h0
 obtain ⟨hm, ea⟩ := app_zero h0
 have m := mayS_zero hm
 have hp := m.p
 obtain ⟨hp', hq', _⟩ := app_P h0
 have H := app_le h0
 obtain ⟨c, hc, hcn⟩ := app_has h0
 have hl3 : (appS d e).1.cs.length ≤ 12 := hp'.1.1
 have hq : d.q ≤ (appS d e).1.q := by omega
 have hes : (appS d e).1.q = e.s := by rw [ea]
 have hea : (appS d e).1.t = e.a := by rw [ea]
 generalize hd' : (appS d e).1 = d' at *
 rw [h0]
 refine Cl.of (hof d (by omega)) ⟨_, _, rfl, Cl.of (hof d' (by omega)) ⟨_, _, rfl, ifB_intro (fun h => by cases h) (fun _ => ?_)⟩⟩
 have c0 : fcOf d = 0 := by unfold fcOf; rw [if_pos hp]
 have c1 : fcOf d' = 0 := by unfold fcOf; rw [if_pos hp']
 have f0 : flOf d = famsOf d := by unfold flOf; rw [if_pos hp]
 have f1 : flOf d' = famsOf d' := by unfold flOf; rw [if_pos hp']
 rw [c0, c1, f0, f1]
 refine ifB_intro (fun h => by cases h) (fun _ => ?_)
 have same := fun {f g} => @fams_same d d' H hq f g
 have kept := fun {f} => @fams_kept d d' H hq f
 have fit1 := fams_fit (d := d) (by omega)
 have fit2 := fams_fit (d := d') (by omega)
 have len1 := fams_len d
 have len2 := fams_len d'
 have ev5 : ∀ f ∈ famsOf d', f.nm = fN5 → ∀ x ∈ f.ss, x.v = e.s := fun f hf h x hx => (fams_ev hf h x hx).trans hes
 have ev6 : ∀ f ∈ famsOf d', f.nm = fN6 → ∀ x ∈ f.ss, x.v = e.a := fun f hf h x hx => (fams_la hf h x hx).trans hea
 have tell : (famsOf d').any (fun f => f.ss.any (tellsB e.c)) = true := by
  obtain ⟨f, hf, x, hx, h⟩ := fams_tell hc (role3 (hp'.2.1 c hc))
  exact List.any_eq_true.2 ⟨f, hf, List.any_eq_true.2 ⟨x, hx, by rw [← hcn]; exact h⟩⟩
 generalize famsOf d = L1 at *
 generalize famsOf d' = L2 at *
 refine ⟨fun b i => (0 ≤ i ∧ i ≤ L2.length) ∧ b = (L2.take i.toNat).any (fun f => f.ss.any (tellsB e.c)), fun _ i => (L2.length - i).toNat, ⟨by omega, rfl⟩, ?_⟩
 rintro b i ⟨⟨i0, il⟩, rfl⟩
 rw [rlen_eq, List.length_map]
 refine ifB_intro (fun hi => ?_) (fun hi => ?_)
 ·have hi : i < L2.length := by simpa using hi
  have hi' : i.toNat < L2.length := by omega
  have hF := fit2 _ (List.getElem_mem hi')
  have r2 := rget_mapI FaD.row L2 i i0 hi
  generalize hf : L2[i.toNat] = f at hF r2
  have hfm : f ∈ L2 := by rw [← hf]; exact List.getElem_mem hi'
  have hF1 := hF.1
  refine ⟨fun b k => (0 ≤ k ∧ k ≤ f.ss.length) ∧ b = ((L2.take i.toNat).any (fun f => f.ss.any (tellsB e.c)) || (f.ss.take k.toNat).any (tellsB e.c)), fun _ k => (f.ss.length - k).toNat, ⟨by omega, by simp⟩, ?_⟩
  rintro b k ⟨⟨k0, kl⟩, rfl⟩
  refine ⟨⟨i0, hi⟩, _, _, _, _, r2, ?_⟩
  rw [rlen_eq, List.length_map]
  refine ifB_intro (fun hk => ?_) (fun hk => ?_)
  ·have hk : k < f.ss.length := by simpa using hk
   have hk' : k.toNat < f.ss.length := by omega
   have r3 := rget_mapI SmD.row f.ss k k0 hk
   generalize hx : f.ss[k.toNat] = x at r3
   have hxm : x ∈ f.ss := by rw [← hx]; exact List.getElem_mem hk'
   have nb : ∀ v : Bool, v = ((L2.take i.toNat).any (fun f => f.ss.any (tellsB e.c)) || (f.ss.take k.toNat).any (tellsB e.c) || tellsB e.c x) → (0 ≤ wadd .i64 k 1 ∧ wadd .i64 k 1 ≤ f.ss.length) ∧ v = ((L2.take i.toNat).any (fun f => f.ss.any (tellsB e.c)) || (f.ss.take (wadd .i64 k 1).toNat).any (tellsB e.c)) := by
    intro v hv
    rw [wadd_i64 (by omega) (by omega), show (k + 1).toNat = k.toNat + 1 by omega, any_snoc _ _ hk', hx, hv, Bool.or_assoc]
    exact ⟨by omega, rfl⟩
   have me : Nat.le (Nat.succ (f.ss.length - wadd .i64 k 1).toNat) (f.ss.length - k).toNat := by
    rw [wadd_i64 (by omega) (by omega)]; exact mlt (by omega)
   have ok5 : bpick (seq f.nm fN5) (ine x.v e.s) false = true → False := fun h => by
    rw [seq_d] at h
    by_cases hn : f.nm = fN5
    ·simp [hn, bpick, ine, ev5 f hfm hn x hxm] at h
    ·simp [hn, bpick] at h
   have ok6 : bpick (seq f.nm fN6) (ine x.v e.a) false = true → False := fun h => by
    rw [seq_d] at h
    by_cases hn : f.nm = fN6
    ·simp [hn, bpick, ine, ev6 f hfm hn x hxm] at h
    ·simp [hn, bpick] at h
   refine ⟨⟨i0, hi⟩, _, _, _, _, r2, ⟨k0, by first | exact hk | (rw [rlen_eq, List.length_map]; exact hk)⟩, _, _, _, r3, ifB_intro (fun hb => ?_) (fun hb => ifB_intro (fun hg => ?_) (fun hg => ?_))⟩
   ·exact ⟨⟨i0, hi⟩, _, _, _, _, r2, ifB_intro (fun h => (ok5 h).elim) (fun _ => ⟨⟨i0, hi⟩, _, _, _, _, r2, ifB_intro (fun h => (ok6 h).elim) (fun _ => ⟨rfl, nb _ (by rw [hb]; rfl), me⟩)⟩)⟩
   ·have hg : 0 < x.ls.length := by simpa using hg
    have r4 : rget (laR x.ls) 0 = [S x.ls[0].1, S x.ls[0].2] := rget_mapI (fun p : LaD => [S p.1, S p.2]) x.ls 0 (by decide) (by omega)
    have ht : tellsB e.c x = decide (x.ls[0].2 = e.c) := by
     unfold tellsB
     split
     ·rename_i p t hpt; simp [hpt]
     ·rename_i hpt; simp [hpt] at hg
    exact ⟨⟨by decide, by rw [rlen_eq, List.length_map]; omega⟩, _, _, r4, ⟨i0, hi⟩, _, _, _, _, r2, ifB_intro (fun h => (ok5 h).elim) (fun _ => ⟨⟨i0, hi⟩, _, _, _, _, r2, ifB_intro (fun h => (ok6 h).elim) (fun _ => ⟨rfl, nb _ (by rw [hb, ht, seq_d]; rfl), me⟩)⟩)⟩
   ·have hg : x.ls = [] := by
     have : (x.ls.length : Int) ≤ 0 := by simpa using hg
     exact List.eq_nil_of_length_eq_zero (by omega)
    have ht : tellsB e.c x = false := by simp [tellsB, hg]
    exact ⟨⟨i0, hi⟩, _, _, _, _, r2, ifB_intro (fun h => (ok5 h).elim) (fun _ => ⟨⟨i0, hi⟩, _, _, _, _, r2, ifB_intro (fun h => (ok6 h).elim) (fun _ => ⟨rfl, nb _ (by rw [hb, ht]; rfl), me⟩)⟩)⟩
  ·have hk : f.ss.length ≤ k := by simpa using hk
   rw [wadd_i64 (by omega) (by omega)]
   refine ⟨rfl, ⟨by omega, ?_⟩, mlt (by dsimp only; omega)⟩
   rw [show (i + 1).toNat = i.toNat + 1 by omega, any_snoc _ _ hi', hf, List.take_of_length_le (by omega : f.ss.length ≤ k.toNat)]
 ·have hi : L2.length ≤ i := by simpa using hi
  rw [List.take_of_length_le (by omega : L2.length ≤ i.toNat), tell]
  refine ⟨fun j => 0 ≤ j ∧ j ≤ L1.length, fun j => (L1.length - j).toNat, by omega, ?_⟩
  rintro j ⟨j0, jl⟩
  rw [rlen_eq, List.length_map]
  refine ifB_intro (fun hj => ?_) (fun hj => rfl)
  have hj : j < L1.length := by simpa using hj
  have hj' : j.toNat < L1.length := by omega
  have hF := fit1 _ (List.getElem_mem hj')
  have r1 := rget_mapI FaD.row L1 j j0 hj
  generalize hf : L1[j.toNat] = f at hF r1
  have hfm : f ∈ L1 := by rw [← hf]; exact List.getElem_mem hj'
  have hF1 := hF.1
  refine ⟨fun a k => (0 ≤ k ∧ k ≤ L2.length) ∧ ((a = -1 ∧ ∀ g ∈ L2.take k.toNat, g.nm ≠ f.nm) ∨ (0 ≤ a ∧ ∃ h : a.toNat < L2.length, L2[a.toNat].nm = f.nm)), fun _ k => (L2.length - k).toNat, ⟨by omega, .inl ⟨rfl, by simp⟩⟩, ?_⟩
  rintro a k ⟨⟨k0, kl⟩, ha⟩
  refine ifB_intro (fun hk => ?_) (fun hk => ?_)
  ·have hk : k < L2.length := by simpa using hk
   have hk' : k.toNat < L2.length := by omega
   refine ⟨⟨k0, by first | exact hk | (rw [rlen_eq, List.length_map]; exact hk)⟩, _, _, _, _, rget_mapI FaD.row L2 k k0 hk, ⟨j0, hj⟩, _, _, _, _, r1, ?_⟩
   rw [seq_d, wadd_i64 (by omega) (by omega)]
   refine ifB_intro (fun h => ?_) (fun h => ?_)
   ·have h : L2[k.toNat].nm = f.nm := by simpa using h
    exact ⟨rfl, ⟨by omega, .inr ⟨k0, hk', h⟩⟩, mlt (by dsimp only; omega)⟩
   ·have h : ¬ L2[k.toNat].nm = f.nm := by simpa using h
    refine ⟨rfl, ⟨by omega, ?_⟩, mlt (by dsimp only; omega)⟩
    rcases ha with ⟨ha, hn⟩ | ha
    ·refine .inl ⟨ha, fun g hg => ?_⟩
     rw [show (k + 1).toNat = k.toNat + 1 by omega, List.take_add_one, List.getElem?_eq_getElem hk'] at hg
     rcases List.mem_append.1 hg with hg | hg
     ·exact hn g hg
     ·simp at hg; subst hg; exact h
    ·exact .inr ha
  have hk : L2.length ≤ k := by simpa using hk
  rw [List.take_of_length_le (by omega : L2.length ≤ k.toNat)] at ha
  rcases ha with ⟨rfl, hn⟩ | ⟨a0, ha, hg⟩
  ·obtain ⟨g, hg, e1⟩ := kept hfm
   exact absurd e1 (hn g hg)
  refine ifB_intro (fun h => ?_) (fun _ => ?_)
  ·have h : a < 0 := by simpa using h
   omega
  have r2 := rget_mapI FaD.row L2 a a0 (by omega)
  have hG := fit2 _ (List.getElem_mem ha)
  have hle := same hfm (List.getElem_mem ha) hg
  generalize hg2 : L2[a.toNat] = g at hG r2 hle
  have hG1 := hG.1
  have al : a < L2.length := by omega
  refine ⟨⟨j0, hj⟩, _, _, _, _, r1, ⟨a0, by first | exact al | (rw [rlen_eq, List.length_map]; exact al)⟩, _, _, _, _, r2, ifB_intro (fun h => ?_) (fun _ => ?_)⟩
  ·have h : ¬ f.ty = g.ty := by simpa [ine] using h
   exact absurd hle.ty h
  refine ⟨fun k => 0 ≤ k ∧ k ≤ f.ss.length, fun k => (f.ss.length - k).toNat, by omega, ?_⟩
  rintro k ⟨k0, kl⟩
  refine ⟨⟨j0, hj⟩, _, _, _, _, r1, ?_⟩
  rw [rlen_eq, List.length_map]
  refine ifB_intro (fun hk => ?_) (fun hk => ?_)
  ·have hk : k < f.ss.length := by simpa using hk
   have hk' : k.toNat < f.ss.length := by omega
   refine ⟨⟨j0, hj⟩, _, _, _, _, r1, ifB_intro (fun ht => ?_) (fun ht => ?_)⟩
   ·have ht : f.ty ≠ 2 := by simpa [ine] using ht
    obtain ⟨y, hy, hxy⟩ := hle.mono ht _ (List.getElem_mem hk')
    have hX := hF.2 _ (List.getElem_mem hk')
    have r3 := rget_mapI SmD.row f.ss k k0 hk
    generalize hx : f.ss[k.toNat] = x at r3 hxy hX
    have found : g.ss.any (goodB x) = true := List.any_eq_true.2 ⟨y, hy, decide_eq_true hxy⟩
    refine ⟨⟨j0, hj⟩, _, _, _, _, r1, ⟨k0, by first | exact hk | (rw [rlen_eq, List.length_map]; exact hk)⟩, _, _, _, r3,
     fun b n => (0 ≤ n ∧ n ≤ g.ss.length) ∧ b = (g.ss.take n.toNat).any (goodB x), fun _ n => (g.ss.length - n).toNat, ⟨by omega, rfl⟩, ?_⟩
    rintro b n ⟨⟨n0, nl⟩, rfl⟩
    refine ⟨⟨a0, by first | exact al | (rw [rlen_eq, List.length_map]; exact al)⟩, _, _, _, _, r2, ?_⟩
    rw [rlen_eq, List.length_map]
    refine ifB_intro (fun hn => ?_) (fun hn => ?_)
    ·have hn : n < g.ss.length := by simpa using hn
     have hn' : n.toNat < g.ss.length := by omega
     have r4 := rget_mapI SmD.row g.ss n n0 hn
     generalize hy : g.ss[n.toNat] = y at r4
     have nb : ∀ v : Bool, v = ((g.ss.take n.toNat).any (goodB x) || goodB x y) → (0 ≤ wadd .i64 n 1 ∧ wadd .i64 n 1 ≤ g.ss.length) ∧ v = (g.ss.take (wadd .i64 n 1).toNat).any (goodB x) := by
      intro v hv
      rw [wadd_i64 (by omega) (by omega), show (n + 1).toNat = n.toNat + 1 by omega, any_snoc _ _ hn', hy, hv]
      exact ⟨by omega, rfl⟩
     have me : Nat.le (Nat.succ (g.ss.length - wadd .i64 n 1).toNat) (g.ss.length - n).toNat := by
      rw [wadd_i64 (by omega) (by omega)]; exact mlt (by omega)
     refine ⟨⟨a0, by first | exact al | (rw [rlen_eq, List.length_map]; exact al)⟩, _, _, _, _, r2, ⟨n0, by first | exact hn | (rw [rlen_eq, List.length_map]; exact hn)⟩, _, _, _, r4, ifB_intro (fun hb => ?_) (fun hb => ?_)⟩
     ·exact ⟨rfl, nb _ (by rw [hb]; rfl), me⟩
     ·rw [seq_d]
      refine ifB_intro (fun h1 => ?_) (fun h1 => ?_)
      ·have h1 : x.nm = y.nm := by simpa using h1
       refine Cl.of (rlabels_fn x.ls y.ls (by omega)) ⟨_, rfl, rfl, nb _ ?_, me⟩
       rw [hb]
       by_cases h2 : x.ls = y.ls <;> by_cases h3 : x.v ≤ y.v <;> simp [goodB, h1, h2, h3, bpick, ige]
      ·have h1 : ¬ x.nm = y.nm := by simpa using h1
       exact ⟨rfl, nb _ (by rw [hb]; simp [goodB, h1]), me⟩
    ·have hn : g.ss.length ≤ n := by simpa using hn
     rw [List.take_of_length_le (by omega : g.ss.length ≤ n.toNat), found]
     refine ifB_intro (fun h => by cases h) (fun _ => ?_)
     rw [wadd_i64 (by omega) (by omega)]
     exact ⟨rfl, by omega, mlt (by dsimp only; omega)⟩
   ·rw [wadd_i64 (by omega) (by omega)]
    exact ⟨rfl, by omega, mlt (by dsimp only; omega)⟩
  ·rw [wadd_i64 (by omega) (by omega)]
   exact ⟨rfl, by omega, mlt (by dsimp only; omega)⟩

end Go.Proofs.YtknnooannohflaaDoor.Met
