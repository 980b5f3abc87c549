/- Layer 15: StateOne over plain data. -/
import Derived.Test.YtohmeljljamigaaSt4
import Derived.Test.YtohmeljljamigaaStN5
namespace Go.Proofs.Ytohmeljljamigaa.St
open Go Go.Px Go.Proofs Go.Proofs.Ytohmeljljamigaa.Cmp
set_option maxRecDepth 100000
set_option linter.unusedVariables false

theorem law9_fn (d : StD) (hl : d.cs.length ≤ 9223372036854775807) (e : EvD) : Ct Try.prog 9 {} [d.sv, e.sv] (fun r => r = [B true]) := by
  refine law9_nf _ _ _ _ _ _ _ _ _ _ _ (Cl.of sawake_fn ⟨_, rfl, ifB_intro (fun h => by simp at h) (fun _ => ?_)⟩)
  refine Cl.of (sshort_fn d hl) ⟨_, rfl, ifB_intro (fun _ => rfl) (fun h2 => ?_)⟩
  have h1 : d.short := by simp at h2; exact h2.1
  have hd := short_lim h1
  have hl20 := hd.1
  have hcd : ∀ c ∈ d.cs, c.cl.length ≤ 1000000 := fun c h => by have := hd.2 c h; omega
  have la := lim_app hd e
  refine Cl.of (sapply_fn d (by omega) e) ⟨_, _, _, _, rfl, ifB_intro (fun h => ?_) (fun h => ?_)⟩
  · have h : (appS d e).2 ≠ 0 := by simpa using h
    have ea := app_err h
    rw [ea]
    refine Cl.of (ssame_fn d d hl hcd) ⟨_, rfl, ifB_intro (fun _ => ?_) (fun z => by simp at z)⟩
    refine Cl.of (smay_fn d (by omega) e) ⟨_, rfl, ?_⟩
    simp
  have h : (appS d e).2 = 0 := by simpa using h
  obtain ⟨hm, ea⟩ := app_zero h
  have m := mayS_zero hm
  have hlen := nxt_len m
  have hnm := nxt_nm m
  have hmem : ∀ c, c ∈ withB CoD.nm d.cs (nxtS d e) ↔ c = nxtS d e ∨ (c ∈ d.cs ∧ c.nm ≠ e.c) := fun c => by rw [mem_withB, hnm]
  rw [ea] at la ⊢
  dsimp only at la ⊢
  have hN : nxtS d e = if e.k = 1 then (newC e.c e.x e.a).1 else tellC (d.cs.getD (fAt CoD.nm d.cs e.c).toNat co0) e := rfl
  generalize withB CoD.nm d.cs (nxtS d e) = w at hlen hmem la
  have hcw := la.2
  have hlw := la.1
  dsimp only at hcw hlw
  -- a component of another name
  have other : ∀ c ∈ w, c.nm ≠ e.c → ∃ (j : Nat) (hj : j < d.cs.length), fAt CoD.nm d.cs c.nm = (j : Int) ∧ d.cs[j] = c := fun c hc hne => by
    rcases (hmem c).1 hc with rfl | ⟨hc, _⟩
    · exact absurd hnm hne
    · obtain ⟨j, hj, rfl⟩ := List.mem_iff_getElem.1 hc
      exact ⟨j, hj, fAt_srt m.p.2.2 hj, rfl⟩
  have own : ∀ c ∈ w, c.nm = e.c → c = nxtS d e := fun c hc he => by
    rcases (hmem c).1 hc with h | ⟨_, h⟩
    · exact h
    · exact absurd he h
  generalize nxtS d e = nx at own hN
  refine ifB_intro (fun hk => ?_) (fun hk => ?_)
  · have hk : e.k = 1 := by simpa using hk
    obtain ⟨n1, n2⟩ := new_ok m hk
    rw [if_pos hk] at hlen hN
    refine ifB_intro (fun z => ?_) (fun _ => ?_)
    · exfalso
      rw [rlen_eq, rlen_eq, List.length_map, List.length_map, waddN _ (by omega)] at z
      simp at z; omega
    refine ⟨fun x => ∃ i : Nat, x = i ∧ i ≤ w.length, fun x => w.length - x.toNat, ⟨0, rfl, by omega⟩, ?_⟩
    rintro _ ⟨i, rfl, hi⟩
    refine ifB_intro (fun hlt => ?_) (fun _ => rfl)
    have hlt : i < w.length := by simpa using hlt
    have nxt : (∃ k : Nat, ((i + 1 : Nat) : Int) = k ∧ k ≤ w.length) ∧ Nat.le (Nat.succ (w.length - ((i + 1 : Nat) : Int).toNat)) (w.length - ((i : Nat) : Int).toNat) := ⟨⟨i + 1, rfl, by omega⟩, stepL (by simp; omega)⟩
    rw [waddN _ (by omega)]
    have hcm := List.getElem_mem hlt
    have rg := rget_map CoD.row w i hlt
    generalize w[i] = c at hcm rg
    have hc40 := hcw c hcm
    refine ⟨⟨by omega, by simpa using hlt⟩, _, _, _, _, _, _, _, _, _, _, _, _, _, _, _, _, _, _, _, _, _, rg, Cl.of (sfind_fn d hl c.nm) ⟨_, rfl, ?_⟩⟩
    rw [sne_d]
    refine ifB_intro (fun hne => ?_) (fun hne => ?_)
    · have hne : ¬ c.nm = e.c := by simpa using hne
      obtain ⟨j, hj, f1, f2⟩ := other c hcm hne
      rw [f1]
      refine ⟨fun b => b = false, fun _ => 0, ifB_intro (fun z => by simp at z; omega) (fun _ => ?_), ?_⟩
      · refine ⟨⟨by omega, by simpa using hj⟩, _, _, _, _, _, _, _, _, _, _, _, _, _, _, _, _, _, _, _, _, _, rget_map _ _ _ hj, Cl.of (psame_fn c d.cs[j] (by omega)) ⟨_, rfl, rfl, ?_⟩⟩
        rw [decide_eq_true (same_iff.2 f2.symm)]; rfl
      · rintro _ rfl
        exact ifB_intro (fun z => by cases z) (fun _ => ⟨rfl, nxt⟩)
    · have hne : c.nm = e.c := by simpa using hne
      have hc := own c hcm hne
      refine ifB_intro (fun _ => ?_) (fun z => by simp at z)
      have hf := (m.new hk).1
      refine Cl.of (pnew_fn e.c e.x e.a) ⟨_, _, _, _, _, _, _, _, _, _, _, _, _, _, _, _, _, _, _, _, _, _, rfl, ifB_intro (fun z => by simp [n1, hne, hf] at z) (fun _ => ?_)⟩
      refine Cl.of (psame_fn c (newC e.c e.x e.a).1 (by omega)) ⟨_, rfl, ifB_intro (fun z => ?_) (fun _ => ⟨rfl, nxt⟩)⟩
      rw [decide_eq_true (same_iff.2 (by rw [hc, hN]))] at z
      cases z
  · have hk : ¬ e.k = 1 := by simpa using hk
    obtain ⟨j0, hj0, g1, g2, g3⟩ := m.old hk
    rw [if_neg hk] at hlen hN
    rw [g1, getD_at hj0] at hN
    have et : tellR d.cs[j0] e = [(tellC d.cs[j0] e).sv, I 0] := by unfold tellR; rw [if_pos g3]
    have ct := ptell_fn d.cs[j0] e
    rw [et, ← hN] at ct
    refine ifB_intro (fun z => ?_) (fun _ => ?_)
    · exfalso
      rw [rlen_eq, rlen_eq, List.length_map, List.length_map, wadd_i64 (by omega) (by omega)] at z
      simp at z; omega
    refine ⟨fun x => ∃ i : Nat, x = i ∧ i ≤ w.length, fun x => w.length - x.toNat, ⟨0, rfl, by omega⟩, ?_⟩
    rintro _ ⟨i, rfl, hi⟩
    refine ifB_intro (fun hlt => ?_) (fun _ => rfl)
    have hlt : i < w.length := by simpa using hlt
    have nxt : (∃ k : Nat, ((i + 1 : Nat) : Int) = k ∧ k ≤ w.length) ∧ Nat.le (Nat.succ (w.length - ((i + 1 : Nat) : Int).toNat)) (w.length - ((i : Nat) : Int).toNat) := ⟨⟨i + 1, rfl, by omega⟩, stepL (by simp; omega)⟩
    rw [waddN _ (by omega)]
    have hcm := List.getElem_mem hlt
    have rg := rget_map CoD.row w i hlt
    generalize w[i] = c at hcm rg
    have hc40 := hcw c hcm
    refine ⟨⟨by omega, by simpa using hlt⟩, _, _, _, _, _, _, _, _, _, _, _, _, _, _, _, _, _, _, _, _, _, rg, Cl.of (sfind_fn d hl c.nm) ⟨_, rfl, ?_⟩⟩
    rw [sne_d]
    refine ifB_intro (fun hne => ?_) (fun hne => ?_)
    · have hne : ¬ c.nm = e.c := by simpa using hne
      obtain ⟨j, hj, f1, f2⟩ := other c hcm hne
      rw [f1]
      refine ⟨fun b => b = false, fun _ => 0, ifB_intro (fun z => by simp at z; omega) (fun _ => ?_), ?_⟩
      · refine ⟨⟨by omega, by simpa using hj⟩, _, _, _, _, _, _, _, _, _, _, _, _, _, _, _, _, _, _, _, _, _, rget_map _ _ _ hj, Cl.of (psame_fn c d.cs[j] (by omega)) ⟨_, rfl, rfl, ?_⟩⟩
        rw [decide_eq_true (same_iff.2 f2.symm)]; rfl
      · rintro _ rfl
        exact ifB_intro (fun z => by cases z) (fun _ => ⟨rfl, nxt⟩)
    · have hne : c.nm = e.c := by simpa using hne
      have hc := own c hcm hne
      refine ifB_intro (fun z => by simp at z) (fun _ => ?_)
      rw [show fAt CoD.nm d.cs c.nm = (j0 : Int) by rw [hne, g1]]
      have r0 : (0 : Int) ≤ (j0 : Nat) ∧ ((j0 : Nat) : Int) < rlen (coR d.cs) := ⟨by omega, by simpa using hj0⟩
      refine ifB_intro (fun z => by simp at z; omega) (fun _ => ?_)
      refine ⟨fun x s1 y1 y2 y3 y4 l1 y5 y6 y7 y8 y9 y10 y11 y12 y13 y14 y15 y16 y17 y18 y19 => x = 0 ∧ SV.agg [S s1, I y1, I y2, I y3, I y4, SL 2 l1, I y5, I y6, I y7, I y8, I y9, I y10, I y11, I y12, I y13, I y14, I y15, I y16, I y17, I y18, I y19] = nx.sv, fun _ _ _ _ _ _ _ _ _ _ _ _ _ _ _ _ _ _ _ _ _ _ => 0, ⟨r0, _, _, _, _, _, _, _, _, _, _, _, _, _, _, _, _, _, _, _, _, _, rget_map _ _ _ hj0, Cl.of ct ⟨_, _, _, _, _, _, _, _, _, _, _, _, _, _, _, _, _, _, _, _, _, _, rfl, rfl, rfl, rfl⟩, Cl.of ct ⟨_, _, _, _, _, _, _, _, _, _, _, _, _, _, _, _, _, _, _, _, _, _, rfl, rfl, rfl, rfl⟩⟩, ?_⟩
      rintro x s1 y1 y2 y3 y4 l1 y5 y6 y7 y8 y9 y10 y11 y12 y13 y14 y15 y16 y17 y18 y19 ⟨rfl, hx⟩
      rw [hx]
      refine ifB_intro (fun z => by simp at z) (fun _ => ?_)
      refine Cl.of (psame_fn c nx (by omega)) ⟨_, rfl, ifB_intro (fun z => ?_) (fun _ => ⟨rfl, nxt⟩)⟩
      rw [decide_eq_true (same_iff.2 hc)] at z
      cases z
end Go.Proofs.Ytohmeljljamigaa.St
