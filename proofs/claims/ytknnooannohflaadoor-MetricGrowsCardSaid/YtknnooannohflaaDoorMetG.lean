/- Layer 26: the families of a state, and what an event leaves of them. (Printed by mkmetg.py.) -/
import Derived.Test.YtknnooannohflaaDoorMeC
import Derived.Test.YtknnooannohflaaDoorMetF
namespace Go.Proofs.YtknnooannohflaaDoor.Met
open Go Go.Px Go.Proofs Go.Proofs.YtknnooannohflaaDoor.Cmp Go.Proofs.YtknnooannohflaaDoor.St
set_option maxRecDepth 100000
set_option linter.unusedVariables false

abbrev fN0 : ByteArray := (ByteArray.mk (Array.mk [102, 117, 115, 101, 98, 111, 120, 95, 98, 117, 99, 107, 101, 116, 95, 114, 111, 111, 109]))
abbrev fH0 : ByteArray := (ByteArray.mk (Array.mk [84, 111, 107, 101, 110, 115, 32, 116, 104, 97, 116, 32, 97, 32, 98, 117, 99, 107, 101, 116, 32, 104, 111, 108, 100, 115, 46]))
abbrev fN1 : ByteArray := (ByteArray.mk (Array.mk [102, 117, 115, 101, 98, 111, 120, 95, 98, 117, 99, 107, 101, 116, 95, 116, 111, 107, 101, 110, 115]))
abbrev fH1 : ByteArray := (ByteArray.mk (Array.mk [84, 111, 107, 101, 110, 115, 32, 116, 104, 97, 116, 32, 97, 32, 98, 117, 99, 107, 101, 116, 32, 104, 97, 115, 46]))
abbrev fN2 : ByteArray := (ByteArray.mk (Array.mk [102, 117, 115, 101, 98, 111, 120, 95, 99, 97, 108, 108, 115, 95, 116, 111, 116, 97, 108]))
abbrev fH2 : ByteArray := (ByteArray.mk (Array.mk [67, 97, 108, 108, 115, 32, 98, 121, 32, 119, 104, 97, 116, 32, 98, 101, 99, 97, 109, 101, 32, 111, 102, 32, 116, 104, 101, 109, 46]))
abbrev fW2_0 : ByteArray := (ByteArray.mk (Array.mk [111, 117, 116, 99, 111, 109, 101]))
abbrev fW2_1 : ByteArray := (ByteArray.mk (Array.mk [103, 111, 111, 100]))
abbrev fW2_2 : ByteArray := (ByteArray.mk (Array.mk [98, 97, 100]))
abbrev fW2_3 : ByteArray := (ByteArray.mk (Array.mk [108, 97, 116, 101]))
abbrev fN3 : ByteArray := (ByteArray.mk (Array.mk [102, 117, 115, 101, 98, 111, 120, 95, 99, 111, 109, 112, 111, 110, 101, 110, 116, 115]))
abbrev fH3 : ByteArray := (ByteArray.mk (Array.mk [67, 111, 109, 112, 111, 110, 101, 110, 116, 115, 32, 116, 104, 97, 116, 32, 97, 114, 101, 32, 114, 101, 103, 105, 115, 116, 101, 114, 101, 100, 46]))
abbrev fN4 : ByteArray := (ByteArray.mk (Array.mk [102, 117, 115, 101, 98, 111, 120, 95, 100, 117, 114, 97, 116, 105, 111, 110]))
abbrev fH4 : ByteArray := (ByteArray.mk (Array.mk [84, 105, 99, 107, 115, 32, 116, 104, 97, 116, 32, 99, 97, 108, 108, 115, 32, 97, 110, 100, 32, 98, 97, 99, 107, 111, 102, 102, 115, 32, 116, 111, 111, 107, 46]))
abbrev fN5 : ByteArray := (ByteArray.mk (Array.mk [102, 117, 115, 101, 98, 111, 120, 95, 101, 118, 101, 110, 116, 115, 95, 116, 111, 116, 97, 108]))
abbrev fH5 : ByteArray := (ByteArray.mk (Array.mk [69, 118, 101, 110, 116, 115, 32, 116, 104, 97, 116, 32, 119, 101, 114, 101, 32, 116, 111, 108, 100, 46]))
abbrev fN6 : ByteArray := (ByteArray.mk (Array.mk [102, 117, 115, 101, 98, 111, 120, 95, 108, 97, 115, 116, 95, 116, 105, 109, 101]))
abbrev fH6 : ByteArray := (ByteArray.mk (Array.mk [84, 105, 109, 101, 32, 111, 102, 32, 116, 104, 101, 32, 108, 97, 115, 116, 32, 101, 118, 101, 110, 116, 46]))
abbrev fN7 : ByteArray := (ByteArray.mk (Array.mk [102, 117, 115, 101, 98, 111, 120, 95, 108, 105, 109, 105, 116, 101, 100, 95, 116, 111, 116, 97, 108]))
abbrev fH7 : ByteArray := (ByteArray.mk (Array.mk [68, 101, 99, 105, 115, 105, 111, 110, 115, 32, 111, 102, 32, 108, 105, 109, 105, 116, 101, 114, 115, 46]))
abbrev fW7_0 : ByteArray := (ByteArray.mk (Array.mk [100, 101, 99, 105, 115, 105, 111, 110]))
abbrev fW7_1 : ByteArray := (ByteArray.mk (Array.mk [97, 100, 109, 105, 116]))
abbrev fW7_2 : ByteArray := (ByteArray.mk (Array.mk [114, 101, 106, 101, 99, 116]))
abbrev fW7_3 : ByteArray := (ByteArray.mk (Array.mk [114, 101, 102, 105, 108, 108]))
abbrev fN8 : ByteArray := (ByteArray.mk (Array.mk [102, 117, 115, 101, 98, 111, 120, 95, 109, 111, 100, 101]))
abbrev fH8 : ByteArray := (ByteArray.mk (Array.mk [77, 111, 100, 101, 32, 111, 102, 32, 97, 32, 98, 114, 101, 97, 107, 101, 114, 44, 32, 111, 114, 32, 116, 104, 101, 32, 108, 97, 115, 116, 32, 97, 116, 116, 101, 109, 112, 116, 32, 111, 102, 32, 97, 32, 114, 101, 116, 114, 105, 101, 114, 46]))
abbrev fN9 : ByteArray := (ByteArray.mk (Array.mk [102, 117, 115, 101, 98, 111, 120, 95, 114, 101, 116, 114, 105, 101, 115, 95, 116, 111, 116, 97, 108]))
abbrev fH9 : ByteArray := (ByteArray.mk (Array.mk [83, 116, 101, 112, 115, 32, 111, 102, 32, 114, 101, 116, 114, 105, 101, 114, 115, 46]))
abbrev fW9_0 : ByteArray := (ByteArray.mk (Array.mk [115, 116, 101, 112]))
abbrev fW9_1 : ByteArray := (ByteArray.mk (Array.mk [97, 116, 116, 101, 109, 112, 116]))
abbrev fW9_2 : ByteArray := (ByteArray.mk (Array.mk [98, 97, 99, 107, 111, 102, 102]))
abbrev fW9_3 : ByteArray := (ByteArray.mk (Array.mk [103, 105, 118, 101, 117, 112]))
abbrev fN10 : ByteArray := (ByteArray.mk (Array.mk [102, 117, 115, 101, 98, 111, 120, 95, 119, 105, 110, 100, 111, 119, 95, 112, 97, 114, 116]))
abbrev fH10 : ByteArray := (ByteArray.mk (Array.mk [84, 104, 111, 117, 115, 97, 110, 100, 116, 104, 115, 32, 111, 102, 32, 108, 97, 116, 101, 32, 99, 97, 108, 108, 115, 32, 116, 104, 97, 116, 32, 119, 101, 110, 116, 32, 119, 114, 111, 110, 103, 46]))
def singleF (n hp : ByteArray) (k x : Int) : FaD := ⟨n, hp, k, [⟨n, [], x⟩]⟩
def allF (d : StD) : List FaD := [gaugeF fN0 fH0 d.cs [2, 3] CoD.rm,
 gaugeF fN1 fH1 d.cs [2, 3] CoD.ha,
 counterF fN2 fH2 d.cs 1 fW2_0 fW2_1 fW2_2 fW2_3,
 singleF fN3 fH3 2 (d.cs.length : Nat),
 histF fN4 fH4 d.cs [1, 3],
 singleF fN5 fH5 1 d.q,
 singleF fN6 fH6 2 d.t,
 counterF fN7 fH7 d.cs 2 fW7_0 fW7_1 fW7_2 fW7_3,
 gaugeF fN8 fH8 d.cs [1, 3] CoD.mo,
 counterF fN9 fH9 d.cs 3 fW9_0 fW9_1 fW9_2 fW9_3,
 gaugeF fN10 fH10 d.cs [1] (fun c => partI c.wd c.sl c.cl)]
def famsOf (d : StD) : List FaD := (allF d).filter fun f => decide (0 < f.ss.length)
def nms : List ByteArray := [fN0, fN1, fN2, fN3, fN4, fN5, fN6, fN7, fN8, fN9, fN10]
theorem nms_eq (d : StD) : (allF d).map FaD.nm = nms := rfl
theorem nms_nodup : nms.Nodup := by decide +kernel
theorem allF_len (d : StD) : (allF d).length = 11 := rfl

structure leF (f g : FaD) : Prop where
 nm : f.nm = g.nm
 ty : f.ty = g.ty
 ne : 0 < f.ss.length → 0 < g.ss.length
 mono : f.ty ≠ 2 → ∀ x ∈ f.ss, ∃ y ∈ g.ss, x.nm = y.nm ∧ x.ls = y.ls ∧ x.v ≤ y.v

theorem mem_ofR {cs : List CoD} {roles : List Int} {c : CoD} : c ∈ ofR cs roles ↔ c ∈ cs ∧ c.ro ∈ roles := by
 simp only [ofR, ofC, List.mem_flatMap]
 constructor
 ·rintro ⟨a, ha, r, hr, h⟩
  split at h
  ·simp at h; subst h; rename_i e; exact ⟨ha, by rw [e]; exact hr⟩
  ·simp at h
 ·rintro ⟨h1, h2⟩
  exact ⟨c, h1, c.ro, h2, by simp⟩

theorem labs_eq {c d : CoD} (e : d.nm = c.nm) (more : List LaD) : labs c more = labs d more := by unfold labs; rw [e]

section
variable {cs cs' : List CoD} (H : ∀ c ∈ cs, ∃ c' ∈ cs', leC c c')
include H
theorem of_le {roles : List Int} {c : CoD} (h : c ∈ ofR cs roles) : ∃ c' ∈ ofR cs' roles, leC c c' := by
 obtain ⟨h1, h2⟩ := mem_ofR.1 h
 obtain ⟨c', h3, h4⟩ := H c h1
 exact ⟨c', mem_ofR.2 ⟨h3, by rw [h4.ro]; exact h2⟩, h4⟩
theorem le_gauge (n hp : ByteArray) (roles : List Int) (f : CoD → Int) : leF (gaugeF n hp cs roles f) (gaugeF n hp cs' roles f) := by
 refine ⟨rfl, rfl, fun h => ?_, fun h => absurd rfl h⟩
 have h : 0 < ((ofR cs roles).map fun c => SmD.mk n (labs c []) (f c)).length := h
 rw [List.length_map] at h
 obtain ⟨c', hc, _⟩ := of_le H (List.getElem_mem h)
 show 0 < ((ofR cs' roles).map fun c => SmD.mk n (labs c []) (f c)).length
 rw [List.length_map]
 exact List.length_pos_of_mem hc
theorem le_flat (n hp : ByteArray) (ty : Int) (roles : List Int) (g : CoD → List SmD) (hg : ∀ c c', leC c c' → ∀ x ∈ g c, ∃ y ∈ g c', x.nm = y.nm ∧ x.ls = y.ls ∧ x.v ≤ y.v) :
  leF ⟨n, hp, ty, (ofR cs roles).flatMap g⟩ ⟨n, hp, ty, (ofR cs' roles).flatMap g⟩ := by
 have key : ∀ x ∈ (ofR cs roles).flatMap g, ∃ y ∈ (ofR cs' roles).flatMap g, x.nm = y.nm ∧ x.ls = y.ls ∧ x.v ≤ y.v := fun x hx => by
  obtain ⟨c, hc, hx⟩ := List.mem_flatMap.1 hx
  obtain ⟨c', hc', hl⟩ := of_le H hc
  obtain ⟨y, hy, h⟩ := hg c c' hl x hx
  exact ⟨y, List.mem_flatMap.2 ⟨c', hc', hy⟩, h⟩
 refine ⟨rfl, rfl, fun h => ?_, fun _ => key⟩
 obtain ⟨y, hy, _⟩ := key _ (List.getElem_mem h)
 exact List.length_pos_of_mem hy
end

theorem le_cnt3 (n lb v0 v1 v2 : ByteArray) (c c' : CoD) (h : leC c c') : ∀ x ∈ cnt3 n lb v0 v1 v2 c, ∃ y ∈ cnt3 n lb v0 v1 v2 c', x.nm = y.nm ∧ x.ls = y.ls ∧ x.v ≤ y.v := by
 intro x hx
 simp only [cnt3, List.mem_cons, List.not_mem_nil, or_false] at hx
 rcases hx with rfl | rfl | rfl
 ·exact ⟨⟨n, labs c' [(lb, v0)], c'.c0⟩, by simp [cnt3], rfl, labs_eq h.nm _, h.c0⟩
 ·exact ⟨⟨n, labs c' [(lb, v1)], c'.c1⟩, by simp [cnt3], rfl, labs_eq h.nm _, h.c1⟩
 ·exact ⟨⟨n, labs c' [(lb, v2)], c'.c2⟩, by simp [cnt3], rfl, labs_eq h.nm _, h.c2⟩

theorem idx_le {l m : List SmD} (hl : l.length = m.length) (h : ∀ i (h1 : i < l.length) (h2 : i < m.length), l[i].nm = m[i].nm ∧ l[i].ls = m[i].ls ∧ l[i].v ≤ m[i].v) : ∀ x ∈ l, ∃ y ∈ m, x.nm = y.nm ∧ x.ls = y.ls ∧ x.v ≤ y.v := by
 intro x hx
 obtain ⟨i, hi, rfl⟩ := List.getElem_of_mem hx
 exact ⟨m[i]'(by omega), List.getElem_mem _, h i hi (by omega)⟩

theorem le_hst (n : ByteArray) (c c' : CoD) (h : leC c c') : ∀ x ∈ hst11 n c, ∃ y ∈ hst11 n c', x.nm = y.nm ∧ x.ls = y.ls ∧ x.v ≤ y.v := by
 have e := fun more => labs_eq h.nm more
 obtain ⟨_, _, _, _, _, q0, q1, q2, q3, q4, q5, q6, q7, q8, qs⟩ := h
 refine idx_le rfl fun i h1 h2 => ?_
 have h1 : i < 11 := h1
 match i, h1 with
 | 0, _ => exact ⟨rfl, e _, by show (pre1 c.h0) ≤ (pre1 c'.h0); simp only [pre1]; omega⟩
 | 1, _ => exact ⟨rfl, e _, by show (pre2 c.h0 c.h1) ≤ (pre2 c'.h0 c'.h1); simp only [pre2]; omega⟩
 | 2, _ => exact ⟨rfl, e _, by show (pre3 c.h0 c.h1 c.h2) ≤ (pre3 c'.h0 c'.h1 c'.h2); simp only [pre3]; omega⟩
 | 3, _ => exact ⟨rfl, e _, by show (pre4 c.h0 c.h1 c.h2 c.h3) ≤ (pre4 c'.h0 c'.h1 c'.h2 c'.h3); simp only [pre4]; omega⟩
 | 4, _ => exact ⟨rfl, e _, by show (pre5 c.h0 c.h1 c.h2 c.h3 c.h4) ≤ (pre5 c'.h0 c'.h1 c'.h2 c'.h3 c'.h4); simp only [pre5]; omega⟩
 | 5, _ => exact ⟨rfl, e _, by show (pre6 c.h0 c.h1 c.h2 c.h3 c.h4 c.h5) ≤ (pre6 c'.h0 c'.h1 c'.h2 c'.h3 c'.h4 c'.h5); simp only [pre6]; omega⟩
 | 6, _ => exact ⟨rfl, e _, by show (pre7 c.h0 c.h1 c.h2 c.h3 c.h4 c.h5 c.h6) ≤ (pre7 c'.h0 c'.h1 c'.h2 c'.h3 c'.h4 c'.h5 c'.h6); simp only [pre7]; omega⟩
 | 7, _ => exact ⟨rfl, e _, by show (pre8 c.h0 c.h1 c.h2 c.h3 c.h4 c.h5 c.h6 c.h7) ≤ (pre8 c'.h0 c'.h1 c'.h2 c'.h3 c'.h4 c'.h5 c'.h6 c'.h7); simp only [pre8]; omega⟩
 | 8, _ => exact ⟨rfl, e _, by show (pre9 c.h0 c.h1 c.h2 c.h3 c.h4 c.h5 c.h6 c.h7 c.h8) ≤ (pre9 c'.h0 c'.h1 c'.h2 c'.h3 c'.h4 c'.h5 c'.h6 c'.h7 c'.h8); simp only [pre9]; omega⟩
 | 9, _ => exact ⟨rfl, e _, qs⟩
 | 10, _ => exact ⟨rfl, e _, by show (pre9 c.h0 c.h1 c.h2 c.h3 c.h4 c.h5 c.h6 c.h7 c.h8) ≤ (pre9 c'.h0 c'.h1 c'.h2 c'.h3 c'.h4 c'.h5 c'.h6 c'.h7 c'.h8); simp only [pre9]; omega⟩

theorem allF_le {d d' : StD} (H : ∀ c ∈ d.cs, ∃ c' ∈ d'.cs, leC c c') (hq : d.q ≤ d'.q) (i : Nat) (h : i < 11) : leF ((allF d)[i]'h) ((allF d')[i]'h) := by
 match i, h with
 | 0, _ => exact (le_gauge H _ _ _ _)
 | 1, _ => exact (le_gauge H _ _ _ _)
 | 2, _ => exact (le_flat H _ _ _ _ _ (le_cnt3 _ _ _ _ _))
 | 3, _ => exact (⟨rfl, rfl, fun h => h, fun h => absurd rfl h⟩)
 | 4, _ => exact (le_flat H _ _ _ _ _ (le_hst _))
 | 5, _ => exact (⟨rfl, rfl, fun h => h, fun _ x hx => ⟨⟨fN5, [], d'.q⟩, by simp [allF, singleF], by simp [allF, singleF] at hx; subst hx; exact ⟨rfl, rfl, hq⟩⟩⟩)
 | 6, _ => exact (⟨rfl, rfl, fun h => h, fun h => absurd rfl h⟩)
 | 7, _ => exact (le_flat H _ _ _ _ _ (le_cnt3 _ _ _ _ _))
 | 8, _ => exact (le_gauge H _ _ _ _)
 | 9, _ => exact (le_flat H _ _ _ _ _ (le_cnt3 _ _ _ _ _))
 | 10, _ => exact (le_gauge H _ _ _ _)

theorem allF_nm (d : StD) (i : Nat) (h : i < 11) : ((allF d)[i]'h).nm = nms[i]'h := by
 have := nms_eq d
 have h2 : ((allF d).map FaD.nm)[i]'(by rw [List.length_map]; exact h) = nms[i]'h := by congr 1
 rw [← h2, List.getElem_map]
 rfl

theorem nms_inj {i j : Nat} (hi : i < 11) (hj : j < 11) (h : nms[i]'hi = nms[j]'hj) : i = j := by
 rcases Nat.lt_trichotomy i j with k | k | k
 ·exact absurd h (List.pairwise_iff_getElem.1 nms_nodup i j hi hj k)
 ·exact k
 ·exact absurd h.symm (List.pairwise_iff_getElem.1 nms_nodup j i hj hi k)

theorem mem_fams {d : StD} {f : FaD} (h : f ∈ famsOf d) : ∃ i, ∃ hi : i < 11, f = (allF d)[i]'hi ∧ 0 < f.ss.length := by
 obtain ⟨h1, h2⟩ := List.mem_filter.1 h
 obtain ⟨i, hi, e⟩ := List.getElem_of_mem h1
 exact ⟨i, hi, e.symm, of_decide_eq_true h2⟩
theorem fams_mem {d : StD} {i : Nat} (hi : i < 11) (h : 0 < ((allF d)[i]'hi).ss.length) : (allF d)[i]'hi ∈ famsOf d :=
 List.mem_filter.2 ⟨List.getElem_mem _, decide_eq_true h⟩

theorem fams_same {d d' : StD} (H : ∀ c ∈ d.cs, ∃ c' ∈ d'.cs, leC c c') (hq : d.q ≤ d'.q) {f g : FaD} (hf : f ∈ famsOf d) (hg : g ∈ famsOf d') (e : g.nm = f.nm) : leF f g := by
 obtain ⟨i, hi, rfl, _⟩ := mem_fams hf
 obtain ⟨j, hj, rfl, _⟩ := mem_fams hg
 rw [allF_nm, allF_nm] at e
 have := nms_inj hj hi e
 subst this
 exact allF_le H hq j hj
theorem fams_kept {d d' : StD} (H : ∀ c ∈ d.cs, ∃ c' ∈ d'.cs, leC c c') (hq : d.q ≤ d'.q) {f : FaD} (hf : f ∈ famsOf d) : ∃ g ∈ famsOf d', g.nm = f.nm := by
 obtain ⟨i, hi, rfl, h0⟩ := mem_fams hf
 have := allF_le H hq i hi
 exact ⟨_, fams_mem hi (this.ne h0), this.nm.symm⟩

theorem fams_ev {d : StD} {f : FaD} (hf : f ∈ famsOf d) (e : f.nm = fN5) : ∀ x ∈ f.ss, x.v = d.q := by
 obtain ⟨i, hi, rfl, _⟩ := mem_fams hf
 rw [allF_nm] at e
 have : i = 5 := nms_inj hi (by decide) e
 subst this
 intro x hx
 have hx : x ∈ [SmD.mk fN5 [] d.q] := hx
 simp at hx; subst hx; rfl
theorem fams_la {d : StD} {f : FaD} (hf : f ∈ famsOf d) (e : f.nm = fN6) : ∀ x ∈ f.ss, x.v = d.t := by
 obtain ⟨i, hi, rfl, _⟩ := mem_fams hf
 rw [allF_nm] at e
 have : i = 6 := nms_inj hi (by decide) e
 subst this
 intro x hx
 have hx : x ∈ [SmD.mk fN6 [] d.t] := hx
 simp at hx; subst hx; rfl

def tellsB (s : ByteArray) (x : SmD) : Bool := match x.ls with
 | p :: _ => decide (p.2 = s)
 | [] => false

theorem fams_tell {d : StD} {c : CoD} (hc : c ∈ d.cs) (hr : c.ro = 1 ∨ c.ro = 2 ∨ c.ro = 3) : ∃ f ∈ famsOf d, ∃ x ∈ f.ss, tellsB c.nm x = true := by
 have key : ∀ (i : Nat) (hi : i < 11) (n lb v0 v1 v2 : ByteArray) (r : Int), c.ro = r → ((allF d)[i]'hi).ss = (ofR d.cs [r]).flatMap (cnt3 n lb v0 v1 v2) → ∃ f ∈ famsOf d, ∃ x ∈ f.ss, tellsB c.nm x = true := by
  intro i hi n lb v0 v1 v2 r e h
  have hm : SmD.mk n (labs c [(lb, v0)]) c.c0 ∈ ((allF d)[i]'hi).ss := by
   rw [h]
   exact List.mem_flatMap.2 ⟨c, mem_ofR.2 ⟨hc, by rw [e]; exact List.mem_singleton.2 rfl⟩, List.mem_cons_self ..⟩
  exact ⟨_, fams_mem hi (List.length_pos_of_mem hm), _, hm, by simp [tellsB, labs]⟩
 rcases hr with e | e | e
 ·exact key 2 (by decide) _ _ _ _ _ 1 e rfl
 ·exact key 7 (by decide) _ _ _ _ _ 2 e rfl
 ·exact key 9 (by decide) _ _ _ _ _ 3 e rfl

end Go.Proofs.YtknnooannohflaaDoor.Met
