/- Layer 17: the fixed answer, the laws SnapRight and SnapBack. -/
import Derived.Test.YtbocfphenkidnaaGreatDoorSnpA
import Derived.Test.YtbocfphenkidnaaGreatDoorSnpN2
import Derived.Test.YtbocfphenkidnaaGreatDoorDkA
namespace Go.Proofs.YtbocfphenkidnaaGreatDoor.Snp
open Go Go.Px Go.Proofs Cod Seg Sgr Go.Proofs.YtbocfphenkidnaaGreatDoor.St Row Dsk
set_option maxRecDepth 100000
set_option linter.unusedVariables false

def DiD.Sz (d : DiD) : Prop := d.fs.length ≤ 140737488351232 ∧ (∀ f ∈ d.fs, f.su.length ≤ 140737488351232 ∧ f.lo.length ≤ 140737488351232) ∧ d.st ≤ 9223372036854775807
theorem Sz.ok {d : DiD} (h : DiD.Sz d) (hl : d.fs.length ≤ 70) : d.ok := by
 obtain ⟨_, h2, h3⟩ := h
 have : ∀ l : List FiD, (∀ f ∈ l, f.su.length ≤ 140737488351232 ∧ f.lo.length ≤ 140737488351232) → usedL l ≤ l.length * 281474976702464 := by
  intro l
  induction l with
  | nil => intro _; simp [usedL]
  | cons a l ih =>
   intro h
   have := ih (fun f hf => h f (by simp [hf]))
   have := h a (by simp)
   rw [usedL_cons]
   simp only [FiD.len, List.length_cons]; omega
 have := this d.fs h2
 exact ⟨by omega, by omega, h3⟩

abbrev dA : DiD := ⟨[], 999, -1, false⟩
abbrev sA : StD := ⟨[], 9, 5⟩
abbrev sB : StD := ⟨[], 4, 3⟩
theorem dA_P : dA.P := by decide
theorem sA_P : sA.P := ⟨by decide, (fun c hc => by cases hc), List.Pairwise.nil⟩
theorem sB_P : sB.P := ⟨by decide, (fun c hc => by cases hc), List.Pairwise.nil⟩
theorem dA_ok : dA.ok := dA_P.ok (by decide)
theorem save_len (s : StD) (h : s.cs = []) (hq : s.q < 128) (ht : s.t < 128) (h0 : 0 ≤ s.q) (h1 : 0 ≤ s.t) : (snU s).length = 11 := by
 rw [snU_len, snB, sealB_len]
 have e1 : leb s.q.toNat = [s.q] := by rw [leb_lt (by omega)]; simp; omega
 have e2 : leb s.t.toNat = [s.t] := by rw [leb_lt (by omega)]; simp; omega
 have e0 : leb 0 = [0] := by rw [leb_lt (by omega)]; rfl
 simp [encS, h, e1, e2, e0]
theorem newR_none {d : DiD} {s : StD} {e : Int} (h : NewR d s e) (hp : d.P) (hd : d.dn = false) (hb : Best d.fs none) : e = 14 ∧ s = st0 := by
 have k : NewR d st0 14 := .inr (.inr ⟨hp, hd, .inr ⟨rfl, rfl, hb⟩⟩)
 obtain ⟨a, b⟩ := h.eq k
 exact ⟨b, a⟩
theorem newR_some {d : DiD} {s t : StD} {e : Int} (h : NewR d s e) (hp : d.P) (hd : d.dn = false) (hb : Best d.fs (some t)) : e = 0 ∧ s = t := by
 have k : NewR d t 0 := .inr (.inr ⟨hp, hd, .inl ⟨rfl, hb⟩⟩)
 obtain ⟨a, b⟩ := h.eq k
 exact ⟨b, a⟩

theorem nawake_fn : Ct Tryz.prog 25 {} [] (fun r => r = [B true]) := by
 have best0 : Best dA.fs none := by rintro t ⟨f, hf, _⟩; cases hf
 have l1 := save_len sA rfl (by decide) (by decide) (by decide) (by decide)
 have l2 := save_len sB rfl (by decide) (by decide) (by decide) (by decide)
 refine nawake_nf _ (Cl.ofQ (nnew_fn dA dA_ok) ?_)
 rintro r ⟨s, e, rfl, hr⟩
 obtain ⟨rfl, rfl⟩ := newR_none hr dA_P rfl best0
 refine ⟨_, _, _, _, rfl, Cl.of (nsave_fn dA dA_ok sA) ?_⟩
 have o0 : oldN dA = 0 := rfl
 have f0 : newF dA = 1 := rfl
 have sc := save_cases dA_P rfl sA_P
 generalize saveD dA sA = p at *
 cases sc with
 | full h => exfalso; rw [o0, f0, l1] at h; simp [usedL] at h
 | down x hp hst => exact absurd rfl hst
 | ok x hp hd hst hrm hf hg =>
 have hfs : x.fs = [newFile sA] := by rw [hf]; rfl
 have hxst : x.st = -1 := hst rfl
 have hxr : x.rm = 999 := hrm
 have xok : x.ok := hp.ok (by omega)
 have hux : usedL x.fs = 11 := by rw [hfs]; simp [usedL, newFile, FiD.len, l1]
 have hgt : x.get tmpB = none := by
  unfold DiD.get; rw [hfs]
  have := snNm_ne sA.q
  simp [newFile, this]
 refine ⟨_, _, _, _, _, rfl, Cl.of (nsave_fn x xok sB) ?_⟩
 have o1 : oldN x = 0 := by unfold oldN; rw [hgt]
 have f1 : newF x = 1 := by unfold newF; rw [hgt]
 have sc := save_cases hp hd sB_P
 generalize saveD x sB = p at *
 cases sc with
 | full h => exfalso; rw [o1, f1, l2, hxr, hux, hfs] at h; simp at h
 | down y hp hst => exact absurd hxst hst
 | ok y hp2 hd2 hst2 hrm2 hf2 hg2 =>
 have yok : y.ok := hp2.ok (by have := hst2 hxst; omega)
 have hne : snNm 9 ≠ snNm 4 := fun e => by have := snNm_inj (by decide) (by decide) e; omega
 have hlen : y.fs.length = 2 := by
  have hw : wout FiD.nm x.fs tmpB = x.fs := wout_none (get_none hgt)
  rw [hf2, hw, withB_new (fun g hg => by rw [hfs] at hg; simp at hg; subst hg; exact hne), len_insB, hfs]
  rfl
 have b1 : Best x.fs (some sA) := by rw [hf]; exact best_new sA_P best0 (fun w h => by cases h)
 have b2 : Best y.fs (some sA) := by rw [hf2]; exact best_later sB_P b1 (by decide)
 refine ⟨_, _, _, _, _, rfl, Cl.ofQ (nnew_fn y yok) ?_⟩
 rintro r ⟨s, e, rfl, hr⟩
 obtain ⟨rfl, rfl⟩ := newR_some hr hp2 hd2 b2
 refine ⟨_, _, _, _, rfl, Cl.ofQ (nnum_fn _) ?_⟩
 rintro r ⟨n, b, rfl, hn⟩
 have k9 : NumR (ByteArray.mk (Array.mk [115, 110, 97, 112, 46, 48, 48, 48, 48, 48, 48, 48, 48, 48, 57])) 9 true := .inl ⟨9, by decide, by decide +kernel, rfl, rfl⟩
 obtain ⟨rfl, rfl⟩ := hn.eq k9
 have hry : rlen (fR y.fs) = 2 := by simp [rlen, hlen]
 refine ⟨_, _, rfl, ?_⟩
 rw [hry]
 refine ifB_intro (fun _ => Cl.of (nname_fn 4) ⟨_, rfl, ?_⟩) (fun h => by simp at h)
 rw [if_pos (by decide)]
 congr 2
 rw [seq_d]
 decide +kernel

theorem p_cells {s : StD} (h : s.P) : s.cs.length ≤ 9223372036854775807 ∧ ∀ c ∈ s.cs, c.cl.length ≤ 1000000 := by
 refine ⟨by have := h.1.1; omega, fun c hc => ?_⟩
 have := (P_shp h c hc).cl
 omega
theorem snD_cells {l : List Int} {s : StD} {e : Int} (h : SnD l s e) : s.cs.length ≤ 9223372036854775807 ∧ ∀ c ∈ s.cs, c.cl.length ≤ 1000000 := by
 rcases h with ⟨p, _, _⟩ | ⟨_, rfl, _⟩
 ·exact p_cells p
 ·exact ⟨by simp, fun c hc => by cases hc⟩
theorem new_cells {d : DiD} {s : StD} {e : Int} (h : NewR d s e) : s.cs.length ≤ 9223372036854775807 ∧ ∀ c ∈ s.cs, c.cl.length ≤ 1000000 := by
 have z : st0.cs.length ≤ 9223372036854775807 ∧ ∀ c ∈ st0.cs, c.cl.length ≤ 1000000 := ⟨by simp, fun c hc => by cases hc⟩
 rcases h with ⟨_, rfl, _⟩ | ⟨_, _, rfl, _⟩ | ⟨_, _, ⟨_, ⟨⟨f, _, k⟩, _⟩⟩ | ⟨_, rfl, _⟩⟩
 ·exact z
 ·exact z
 ·exact p_cells k.1
 ·exact z
theorem save_fs {d : DiD} {s : StD} (hl : d.fs.length ≤ 1000) : (saveD d s).1.fs.length ≤ 1000 := by
 by_cases h : d.P ∧ s.P
 ·by_cases hd : d.dn = true
  ·have : saveD d s = (d, 16) := by unfold saveD; rw [if_neg (by simp [h]), if_pos hd]
   rw [this]; exact hl
  ·have sc := save_cases h.1 (by simpa using hd) h.2
   generalize saveD d s = p at *
   cases sc with
   | full => exact hl
   | down x hp => have := hp.1.1; dsimp only; omega
   | ok x hp => have := hp.1.1; dsimp only; omega
 ·have : saveD d s = (d, 1) := by unfold saveD; rw [if_pos h]
  rw [this]; exact hl

theorem law4_fn (d : DiD) (hz : DiD.Sz d) (s : StD) (hs : s.cs.length ≤ 9223372036854775807) (q : Int) (nm : ByteArray) (l : List Int) (hl : Byts l) :
  Ct Tryz.prog 4 {} [d.sv, s.sv, I q, S nm, SL 1 (bR l)] (fun r => r = [B true]) := by
 have hrl : rlen (bR l) = l.length := by simp [rlen]
 refine nlaw4_nf _ _ _ _ _ _ _ _ _ _ _ (Cl.of nawake_fn ⟨_, rfl, ifB_intro (fun h => by simp at h) (fun _ => ?_)⟩)
 refine ⟨fun b => b = true ∨ (d.fs.length ≤ 70 ∧ s.short ∧ l.length ≤ 6000), fun _ => 0, ?_, ?_⟩
 ·refine Cl.of (qshort_fn d (Sz.ok hz) (by have := hz.1; omega)) ⟨_, rfl, ifB_intro (fun _ => ⟨rfl, .inl rfl⟩) (fun h => ?_)⟩
  simp at h
  refine Cl.of (sshort_fn s hs) ⟨_, rfl, rfl, ?_⟩
  rw [hrl]
  by_cases h1 : s.short
  ·by_cases h2 : l.length ≤ 6000
   ·exact .inr ⟨h.1, h1, h2⟩
   ·left; simp; omega
  ·left; simp [h1]
 rintro b hb
 refine ifB_intro (fun _ => rfl) (fun hbf => ?_)
 subst hbf
 rcases hb with hb | ⟨hd70, hsh, hl6⟩
 ·cases hb
 have hok := Sz.ok hz hd70
 refine ⟨fun x => x = if inQ q then snNm q else ByteArray.mk #[], fun _ => 0, ?_, ?_⟩
 ·refine ifB_intro (fun h => ?_) (fun h => ?_)
  ·have : inQ q := by unfold inQ; simpa using h
   rw [if_pos this]
   exact Cl.of (rnname_fn q this) ⟨_, rfl, rfl, rfl⟩
  ·have : ¬ inQ q := fun h2 => by unfold inQ at h2; simp [h2] at h
   rw [if_neg this]
   exact ⟨rfl, rfl⟩
 rintro _ rfl
 refine Cl.ofQ (nnum_fn nm) ?_
 rintro r ⟨n, b, rfl, hn⟩
 refine ⟨_, _, rfl, Cl.ofQ (rnnum_fn nm) ?_⟩
 rintro r ⟨n', b', rfl, hn'⟩
 obtain ⟨rfl, rfl⟩ := hn.eq hn'
 refine ⟨_, _, rfl, Cl.of (nname_fn q) ⟨_, rfl, ifB_intro (fun h => ?_) (fun _ => ?_)⟩⟩
 ·exfalso
  have e : ∀ x : ByteArray, sne x x = false := fun x => by simp [sne]
  rw [e] at h
  simp at h
 refine Cl.of (nenc_fn s) ?_
 by_cases hp : s.P
 all_goals first | rw [if_pos hp] | rw [if_neg hp]
 all_goals refine ⟨_, _, rfl, Cl.of (srright_fn s) ⟨_, rfl, True, 0, ?_, fun _ => ?_⟩⟩
 ·refine ifB_intro (fun _ => ?_) (fun h => by simp [hp] at h)
  refine ⟨fun b => b = false, fun _ => 0, ?_, ?_⟩
  ·refine ifB_intro (fun h => by simp at h) (fun _ => ⟨isBytes_bR (snB_byts s), Cl.of (rnenc_fn s hp) ⟨_, rfl, isBytes_bR (snB_byts s), rfl, ?_⟩⟩)
   rw [bstr_sne (snB_byts s) (snB_byts s)]; simp
  ·rintro _ rfl
   exact ifB_intro (fun h => by simp at h) (fun _ => ⟨rfl, trivial⟩)
 rotate_left
 ·refine ifB_intro (fun h => by simp [hp] at h) (fun _ => ifB_intro (fun h => by simp [rlen] at h) (fun _ => ⟨rfl, trivial⟩))
 all_goals
  refine Cl.ofQ (ndec_fn l (by omega) hl) ?_
  rintro r ⟨u, e, rfl, hu⟩
  refine ⟨_, _, _, _, rfl, Cl.ofQ (rndec_fn l (by omega) hl) ?_⟩
  rintro r ⟨u', e', rfl, hu'⟩
  obtain ⟨rfl, rfl⟩ := hu.eq hu'
  obtain ⟨c1, c2⟩ := snD_cells hu
  refine ⟨_, _, _, _, rfl, ifB_intro (fun h => by simp at h) (fun _ => Cl.of (srsame_fn u u c1 c2) ⟨_, rfl, ifB_intro (fun h => by simp at h) (fun _ => ?_)⟩)⟩
  refine Cl.of (nsave_fn d hok s) ⟨_, _, _, _, _, rfl, Cl.of (rnsave_fn d hok s) ⟨_, _, _, _, _, rfl, ifB_intro (fun h => by simp at h) (fun _ => ?_)⟩⟩
  have hfs := save_fs (s := s) (d := d) (by omega)
  refine Cl.of (qsame_fn (saveD d s).1 (saveD d s).1 (by omega)) ⟨_, rfl, ifB_intro (fun h => by simp at h) (fun _ => ?_)⟩
  refine Cl.ofQ (nnew_fn d hok) ?_
  rintro r ⟨u, e, rfl, hu⟩
  refine ⟨_, _, _, _, rfl, Cl.ofQ (rnnew_fn d hok) ?_⟩
  rintro r ⟨u', e', rfl, hu'⟩
  obtain ⟨rfl, rfl⟩ := hu.eq hu'
  obtain ⟨c1, c2⟩ := new_cells hu
  exact ⟨_, _, _, _, rfl, ifB_intro (fun _ => Cl.of (srsame_fn u u c1 c2) ⟨_, rfl, by simp⟩) (fun h => by simp at h)⟩
end Go.Proofs.YtbocfphenkidnaaGreatDoor.Snp
