/- Layer 17: the fixed answer, the laws SnapRight and SnapBack. -/
import Derived.Test.YtbocfphenkidnaaGreatDoorSnpA
import Derived.Test.YtbocfphenkidnaaGreatDoorSnpN2
import Derived.Test.YtbocfphenkidnaaGreatDoorDkA
namespace Go.Proofs.YtbocfphenkidnaaGreatDoor.Snp
open Go Go.Px Go.Proofs Go.Proofs.YtbocfphenkidnaaGreatDoor.Cod Go.Proofs.YtbocfphenkidnaaGreatDoor.Seg Go.Proofs.YtbocfphenkidnaaGreatDoor.Sgr Go.Proofs.YtbocfphenkidnaaGreatDoor.St Go.Proofs.YtbocfphenkidnaaGreatDoor.Row Go.Proofs.YtbocfphenkidnaaGreatDoor.Dsk
set_option maxRecDepth 100000
set_option linter.unusedVariables false

/-- As much as a machine has room for. -/
def DiD.Sz (d : DiD) : Prop := d.fs.length ≤ 140737488351232 ∧ (∀ f ∈ d.fs, f.su.length ≤ 140737488351232 ∧ f.lo.length ≤ 140737488351232) ∧ d.st ≤ 9223372036854775807
theorem Sz.ok {d : DiD} (h : DiD.Sz d) (hl : d.fs.length ≤ 70) : d.ok := by
  obtain ⟨_, h2, h3⟩ := h
  have : ∀ l : List FiD, (∀ f ∈ l, f.su.length ≤ 140737488351232 ∧ f.lo.length ≤ 140737488351232) → usedL l ≤ l.length * 281474976702464 := by
    intro l
    induction l with
    | nil => intro _; simp [usedL]
    | cons a l ih =>
      intro h
      have := ih (fun f hf => h f (by simp [hf]))
      have := h a (by simp)
      rw [usedL_cons]
      simp only [FiD.len, List.length_cons]; omega
  have := this d.fs h2
  exact ⟨by omega, by omega, h3⟩

abbrev dA : DiD := ⟨[], 999, -1, false⟩
abbrev sA : StD := ⟨[], 9, 5⟩
abbrev sB : StD := ⟨[], 4, 3⟩
theorem dA_P : dA.P := by decide
theorem sA_P : sA.P := ⟨by decide, (fun c hc => by cases hc), List.Pairwise.nil⟩
theorem sB_P : sB.P := ⟨by decide, (fun c hc => by cases hc), List.Pairwise.nil⟩
theorem dA_ok : dA.ok := dA_P.ok (by decide)
theorem save_len (s : StD) (h : s.cs = []) (hq : s.q < 128) (ht : s.t < 128) (h0 : 0 ≤ s.q) (h1 : 0 ≤ s.t) : (snU s).length = 11 := by
  rw [snU_len, snB, sealB_len]
  have e1 : leb s.q.toNat = [s.q] := by rw [leb_lt (by omega)]; simp; omega
  have e2 : leb s.t.toNat = [s.t] := by rw [leb_lt (by omega)]; simp; omega
  have e0 : leb 0 = [0] := by rw [leb_lt (by omega)]; rfl
  simp [encS, h, e1, e2, e0]
theorem newR_none {d : DiD} {s : StD} {e : Int} (h : NewR d s e) (hp : d.P) (hd : d.dn = false) (hb : Best d.fs none) : e = 14 ∧ s = st0 := by
  have k : NewR d st0 14 := .inr (.inr ⟨hp, hd, .inr ⟨rfl, rfl, hb⟩⟩)
  obtain ⟨a, b⟩ := h.eq k
  exact ⟨b, a⟩
theorem newR_some {d : DiD} {s t : StD} {e : Int} (h : NewR d s e) (hp : d.P) (hd : d.dn = false) (hb : Best d.fs (some t)) : e = 0 ∧ s = t := by
  have k : NewR d t 0 := .inr (.inr ⟨hp, hd, .inl ⟨rfl, hb⟩⟩)
  obtain ⟨a, b⟩ := h.eq k
  exact ⟨b, a⟩

theorem nawake_fn : Ct Tryz.prog 25 {} [] (fun r => r = [B true]) := by
  have best0 : Best dA.fs none := by rintro t ⟨f, hf, _⟩; cases hf
  have l1 := save_len sA rfl (by decide) (by decide) (by decide) (by decide)
  have l2 := save_len sB rfl (by decide) (by decide) (by decide) (by decide)
  refine nawake_nf _ (Cl.ofQ (nnew_fn dA dA_ok) ?_)
  rintro r ⟨s, e, rfl, hr⟩
  obtain ⟨rfl, rfl⟩ := newR_none hr dA_P rfl best0
  refine ⟨_, _, _, _, rfl, Cl.of (nsave_fn dA dA_ok sA) ?_⟩
  have o0 : oldN dA = 0 := rfl
  have f0 : newF dA = 1 := rfl
  have sc := save_cases dA_P rfl sA_P
  generalize saveD dA sA = p at *
  cases sc with
  | full h => exfalso; rw [o0, f0, l1] at h; simp [usedL] at h
  | down x hp hst => exact absurd rfl hst
  | ok x hp hd hst hrm hf hg =>
  have hfs : x.fs = [newFile sA] := by rw [hf]; rfl
  have hxst : x.st = -1 := hst rfl
  have hxr : x.rm = 999 := hrm
  have xok : x.ok := hp.ok (by omega)
  have hux : usedL x.fs = 11 := by rw [hfs]; simp [usedL, newFile, FiD.len, l1]
  have hgt : x.get tmpB = none := by
    unfold DiD.get; rw [hfs]
    have := snNm_ne sA.q
    simp [newFile, this]
  refine ⟨_, _, _, _, _, rfl, Cl.of (nsave_fn x xok sB) ?_⟩
  have o1 : oldN x = 0 := by unfold oldN; rw [hgt]
  have f1 : newF x = 1 := by unfold newF; rw [hgt]
  have sc := save_cases hp hd sB_P
  generalize saveD x sB = p at *
  cases sc with
  | full h => exfalso; rw [o1, f1, l2, hxr, hux, hfs] at h; simp at h
  | down y hp hst => exact absurd hxst hst
  | ok y hp2 hd2 hst2 hrm2 hf2 hg2 =>
  have yok : y.ok := hp2.ok (by have := hst2 hxst; omega)
  have hne : snNm 9 ≠ snNm 4 := fun e => by have := snNm_inj (by decide) (by decide) e; omega
  have hlen : y.fs.length = 2 := by
    have hw : wout FiD.nm x.fs tmpB = x.fs := wout_none (get_none hgt)
    rw [hf2, hw, withB_new (fun g hg => by rw [hfs] at hg; simp at hg; subst hg; exact hne), len_insB, hfs]
    rfl
  have b1 : Best x.fs (some sA) := by rw [hf]; exact best_new sA_P best0 (fun w h => by cases h)
  have b2 : Best y.fs (some sA) := by rw [hf2]; exact best_later sB_P b1 (by decide)
  refine ⟨_, _, _, _, _, rfl, Cl.ofQ (nnew_fn y yok) ?_⟩
  rintro r ⟨s, e, rfl, hr⟩
  obtain ⟨rfl, rfl⟩ := newR_some hr hp2 hd2 b2
  refine ⟨_, _, _, _, rfl, Cl.ofQ (nnum_fn _) ?_⟩
  rintro r ⟨n, b, rfl, hn⟩
  have k9 : NumR (ByteArray.mk (Array.mk [115, 110, 97, 112, 46, 48, 48, 48, 48, 48, 48, 48, 48, 48, 57])) 9 true := .inl ⟨9, by decide, by decide +kernel, rfl, rfl⟩
  obtain ⟨rfl, rfl⟩ := hn.eq k9
  have hry : rlen (fR y.fs) = 2 := by simp [rlen, hlen]
  refine ⟨_, _, rfl, ?_⟩
  rw [hry]
  refine ifB_intro (fun _ => Cl.of (nname_fn 4) ⟨_, rfl, ?_⟩) (fun h => by simp at h)
  rw [if_pos (by decide)]
  congr 2
  rw [seq_d]
  decide +kernel

theorem p_cells {s : StD} (h : s.P) : s.cs.length ≤ 9223372036854775807 ∧ ∀ c ∈ s.cs, c.cl.length ≤ 1000000 := by
  refine ⟨by have := h.1.1; omega, fun c hc => ?_⟩
  have := (P_shp h c hc).cl
  omega
theorem new_cells {d : DiD} {s : StD} {e : Int} (h : NewR d s e) : s.cs.length ≤ 9223372036854775807 ∧ ∀ c ∈ s.cs, c.cl.length ≤ 1000000 := by
  have z : st0.cs.length ≤ 9223372036854775807 ∧ ∀ c ∈ st0.cs, c.cl.length ≤ 1000000 := ⟨by simp, fun c hc => by cases hc⟩
  rcases h with ⟨_, rfl, _⟩ | ⟨_, _, rfl, _⟩ | ⟨_, _, ⟨_, ⟨⟨f, _, k⟩, _⟩⟩ | ⟨_, rfl, _⟩⟩
  · exact z
  · exact z
  · exact p_cells k.1
  · exact z
end Go.Proofs.YtbocfphenkidnaaGreatDoor.Snp
