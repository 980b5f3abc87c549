/- Layer 17: the law SnapKeeps. -/
import Derived.Test.YtbocfphenkidnaaGreatDoorSnF
import Derived.Test.YtbocfphenkidnaaGreatDoorSnpN3
namespace Go.Proofs.YtbocfphenkidnaaGreatDoor.Snp
open Go Go.Px Go.Proofs Go.Proofs.YtbocfphenkidnaaGreatDoor.Cod Go.Proofs.YtbocfphenkidnaaGreatDoor.Seg Go.Proofs.YtbocfphenkidnaaGreatDoor.Sgr Go.Proofs.YtbocfphenkidnaaGreatDoor.St Go.Proofs.YtbocfphenkidnaaGreatDoor.Row Go.Proofs.YtbocfphenkidnaaGreatDoor.Dsk
set_option maxRecDepth 100000
set_option linter.unusedVariables false

/-- A disk on which all bytes last. -/
theorem wake_all {d : DiD} (h : d.P) : ∀ f ∈ wakeL [65536] d.fs, f.lo = [] := by
  intro f hf
  obtain ⟨i, hi, e⟩ := List.getElem_of_mem hf
  rw [wakeL_get] at e
  rw [← e]; rfl

/-- Two answers about what counts. -/
structure Keeps3 (u b : DiD) (s was now : StD) (f g i : Int) : Prop where
  kept : (i = f ∧ now = was) ∨ (i = 0 ∧ now = s ∧ (f ≠ 0 ∨ was.q ≤ s.q))
  well : g = 0 → (i = 0 ∧ now = s ∧ (f ≠ 0 ∨ was.q ≤ s.q)) ∨ (f = 0 ∧ s.q < was.q)
  files : ∀ x ∈ u.fs, x.nm ≠ tmpB → x.nm ≠ snNm s.q → x ∈ b.fs

theorem best_of {d : DiD} {s : StD} {e : Int} (h : NewR d s e) (hp : d.P) (hd : d.dn = false) : (e = 0 ∧ Best d.fs (some s)) ∨ (e = 14 ∧ s = st0 ∧ Best d.fs none) := by
  rcases h with ⟨h, _⟩ | ⟨_, h, _⟩ | ⟨_, _, h⟩
  · exact absurd hp h
  · rw [hd] at h; cases h
  · exact h
/-- What counts when the power came again behind a save. -/
theorem keeps {u : DiD} (hp : u.P) (hd : u.dn = false) (hlo : ∀ f ∈ u.fs, f.lo = []) {s : StD} (hs : s.P) {was : StD} {f : Int} (hw : NewR u was f) (ks : List Int)
    {x : DiD} {g : Int} (hx : saveD u s = (x, g)) {b : DiD} (hbp : b.P) (hbd : b.dn = false) (hb : b.fs = wakeL ks x.fs) {now : StD} {i : Int} (hn : NewR b now i) : (g = 0 ∨ g = 16 ∨ g = 13) ∧ x.P ∧ (Good u → Good x) ∧ Keeps3 u b s was now f g i := by
  have sc := save_cases hp hd hs
  rw [hx] at sc
  have hw2 := best_of hw hp hd
  -- nothing but tmp was touched
  have same : g ≠ 0 → Eqv x.fs u.fs → Keeps3 u b s was now f g i := by
    intro hg he
    have hxl : ∀ f ∈ x.fs, f.nm ≠ tmpB → f.lo = [] := fun f hf hn => hlo f ((he f hn).1 hf)
    have hbe : Eqv b.fs u.fs := by rw [hb]; exact (eqv_wake ks hxl).trans he
    refine ⟨.inl ?_, fun h => absurd h hg, fun y hy h1 h2 => (hbe y h1).2 hy⟩
    rcases hw2 with ⟨rfl, h2⟩ | ⟨rfl, rfl, h2⟩
    · exact newR_some hn hbp hbd (hbe.symm.best h2)
    · exact newR_none hn hbp hbd (hbe.symm.best h2)
  cases sc with
  | full => exact ⟨.inr (.inr rfl), hp, fun h => h, same (by omega) (Eqv.refl _)⟩
  | down x hp' hst he hg => exact ⟨.inr (.inl rfl), hp', hg, same (by omega) he⟩
  | ok x hp' hd' hst hrm hf hg =>
    have hxl : ∀ f ∈ x.fs, f.nm ≠ tmpB → f.lo = [] := fun f hf' hn => by
      rw [hf] at hf'
      rcases mem_withB.1 hf' with rfl | ⟨h1, _⟩
      · rfl
      · exact hlo f (mem_wout.1 h1).1
    have hbe : Eqv b.fs x.fs := by rw [hb]; exact eqv_wake ks hxl
    refine ⟨.inl rfl, hp', hg, ?_⟩
    have fil : ∀ y ∈ u.fs, y.nm ≠ tmpB → y.nm ≠ snNm s.q → y ∈ b.fs := fun y hy h1 h2 => by
      refine (hbe y h1).2 ?_
      rw [hf]
      exact mem_withB.2 (.inr ⟨mem_wout.2 ⟨hy, h1⟩, h2⟩)
    rcases hw2 with ⟨rfl, h2⟩ | ⟨rfl, rfl, h2⟩
    · by_cases hq : s.q < was.q
      · have k := hbe.symm.best (by rw [hf]; exact best_later hs h2 hq)
        obtain ⟨e1, e2⟩ := newR_some hn hbp hbd k
        exact ⟨.inl ⟨e1, e2⟩, fun _ => .inr ⟨rfl, hq⟩, fil⟩
      · have k := hbe.symm.best (by rw [hf]; exact best_new hs h2 (fun w hw => by cases hw; omega))
        obtain ⟨e1, e2⟩ := newR_some hn hbp hbd k
        exact ⟨.inr ⟨e1, e2, .inr (by omega)⟩, fun _ => .inl ⟨e1, e2, .inr (by omega)⟩, fil⟩
    · have k := hbe.symm.best (by rw [hf]; exact best_new hs h2 (fun w hw => by cases hw))
      obtain ⟨e1, e2⟩ := newR_some hn hbp hbd k
      exact ⟨.inr ⟨e1, e2, .inl (by omega)⟩, fun _ => .inl ⟨e1, e2, .inl (by omega)⟩, fil⟩

/-- The same state can be saved then. -/
theorem again {b : DiD} (hp : b.P) (hd : b.dn = false) (hst : b.st = -1) {s : StD} (hs : s.P) {now : StD} {i : Int} (hn : NewR b now i) {y : DiD} {j : Int} (hy : saveD b s = (y, j)) {z : StD} {l : Int} (hz : NewR y z l) :
    y.P ∧ (Good b → Good y) ∧ (j = 13 ∨ (j = 0 ∧ l = 0 ∧ (z = s ∨ (i = 0 ∧ s.q < now.q ∧ z = now)))) := by
  have sc := save_cases hp hd hs
  rw [hy] at sc
  cases sc with
  | full => exact ⟨hp, fun h => h, .inl rfl⟩
  | down x hp' hst' => exact absurd hst hst'
  | ok x hp' hd' _ _ hf hg =>
    refine ⟨hp', hg, .inr ⟨rfl, ?_⟩⟩
    rcases best_of hn hp hd with ⟨rfl, h2⟩ | ⟨rfl, rfl, h2⟩
    · by_cases hq : s.q < now.q
      · obtain ⟨e1, e2⟩ := newR_some hz hp' hd' (by rw [hf]; exact best_later hs h2 hq)
        exact ⟨e1, .inr ⟨rfl, hq, e2⟩⟩
      · obtain ⟨e1, e2⟩ := newR_some hz hp' hd' (by rw [hf]; exact best_new hs h2 (fun w hw => by cases hw; omega))
        exact ⟨e1, .inl e2⟩
    · obtain ⟨e1, e2⟩ := newR_some hz hp' hd' (by rw [hf]; exact best_new hs h2 (fun w hw => by cases hw))
      exact ⟨e1, .inl e2⟩

theorem law6_fn (d : DiD) (hz : DiD.Sz d) (s : StD) (hs : s.cs.length ≤ 9223372036854775807) (n : Int) (hn : 0 ≤ n ∧ n ≤ 255) (ks : List Int) (hk : ks.length ≤ 140737488351232) :
    Ct Tryz.prog 6 {} [d.sv, s.sv, U8 n, SL 1 (ks.map fun k => [I k])] (fun r => r = [B true]) := by
  have hrk : rlen (ks.map fun k => [I k]) = ks.length := by simp [rlen]
  refine nlaw6_nf _ _ _ _ _ _ _ _ _ _ (Cl.of nawake_fn ⟨_, rfl, ifB_intro (fun h => by simp at h) (fun _ => ?_)⟩)
  refine ⟨fun b => b = true ∨ (d.fs.length ≤ 70 ∧ s.P ∧ ks.length ≤ 9), fun _ => 0, ?_, ?_⟩
  · refine Cl.of (qshort_fn d (Sz.ok hz) (by have := hz.1; omega)) ⟨_, rfl, ifB_intro (fun _ => ⟨rfl, .inl rfl⟩) (fun h => ?_)⟩
    simp at h
    refine Cl.of (sshort_fn s hs) ⟨_, rfl, ?_⟩
    rw [hrk]
    refine ifB_intro (fun _ => ⟨rfl, .inl rfl⟩) (fun h2 => ?_)
    rw [bor_f] at h2
    refine Cl.of (sright_fn s) ⟨_, rfl, rfl, ?_⟩
    by_cases hp : s.P
    · exact .inr ⟨h.1, hp, by have := h2.2; simp at this; omega⟩
    · left; simp [hp]
  rintro bb hb
  refine ifB_intro (fun _ => rfl) (fun hbf => ?_)
  subst hbf
  rcases hb with hb | ⟨hd70, hsp, hk9⟩
  · cases hb
  have hok := Sz.ok hz hd70
  have wn : wcv IntKind.i64 n = n := wrap_i64 (by omega) (by omega)
  have hm : 0 ≤ wrem n 8 ∧ wrem n 8 < 8 := by
    unfold wrem
    rw [Int.tmod_eq_emod_of_nonneg hn.1]
    exact ⟨Int.emod_nonneg _ (by omega), Int.emod_lt_of_pos _ (by omega)⟩
  rw [wn]
  generalize wrem n 8 = m at *
  refine ⟨by omega, Cl.of (dwake_fn d hok [65536] m (by simp)) ?_⟩
  by_cases hdp : d.P
  rotate_left
  · have e : opWake d [65536] m = (d, 1) := by unfold opWake; rw [if_pos (.inl hdp)]
    rw [e]
    exact ⟨_, _, _, _, _, rfl, ifB_intro (fun _ => rfl) (fun h => by simp at h)⟩
  have e : opWake d [65536] m = (⟨wakeL [65536] d.fs, d.rm, m, false⟩, 0) := by unfold opWake; rw [if_neg (by simp [hdp]; omega)]
  have up := opWake_P (ks := [65536]) (n := m) hdp
  rw [e] at up
  have ulo := wake_all hdp
  have urm : (0 : Int) ≤ d.rm ∧ d.rm ≤ 65536 := ⟨hdp.1.2.1, hdp.1.2.2.1⟩
  rw [e]
  generalize hu : (⟨wakeL [65536] d.fs, d.rm, m, false⟩ : DiD) = u at *
  have ud : u.dn = false := by rw [← hu]
  have ulo : ∀ f ∈ u.fs, f.lo = [] := by rw [← hu]; exact ulo
  have ug : Good u := by unfold Good; rw [← hu]; dsimp only; omega
  have uok := ug.ok up
  have e' : (u, (0 : Int)).1 = u := rfl
  refine ⟨_, _, _, _, _, rfl, ifB_intro (fun h => by simp at h) (fun _ => Cl.ofQ (nnew_fn u uok) ?_)⟩
  rintro r ⟨was, f, rfl, hw⟩
  obtain ⟨x, g, hx⟩ : ∃ x g, saveD u s = (x, g) := ⟨_, _, rfl⟩
  refine ⟨_, _, _, _, rfl, Cl.of (nsave_fn u uok s) ?_⟩
  rw [hx]
  have xpg : x.P ∧ Good x := by
    have sc := save_cases up ud hsp
    rw [hx] at sc
    cases sc with
    | full => exact ⟨up, ug⟩
    | down x hp' _ _ hg => exact ⟨hp', hg ug⟩
    | ok x hp' _ _ _ _ hg => exact ⟨hp', hg ug⟩
  obtain ⟨xp, xg⟩ := xpg
  refine ⟨_, _, _, _, _, rfl, Cl.of (dwake_fn x (xg.ok xp) ks (-1) (by omega)) ?_⟩
  have eb : opWake x ks (-1) = (⟨wakeL ks x.fs, x.rm, -1, false⟩, 0) := by unfold opWake; rw [if_neg (by simp [xp])]
  have bp := opWake_P (ks := ks) (n := -1) xp
  rw [eb] at bp ⊢
  generalize hbb : (⟨wakeL ks x.fs, x.rm, -1, false⟩ : DiD) = b at *
  have bd : b.dn = false := by rw [← hbb]
  have bst : b.st = -1 := by rw [← hbb]
  have bfs : b.fs = wakeL ks x.fs := by rw [← hbb]
  have bg : Good b := by unfold Good; rw [bst]; omega
  have bok := bg.ok bp
  refine ⟨_, _, _, _, _, rfl, Cl.ofQ (nnew_fn b bok) ?_⟩
  rintro r ⟨now, i, rfl, hnw⟩
  obtain ⟨hg3, _, _, kk⟩ := keeps up ud ulo hsp hw ks hx bp bd bfs hnw
  obtain ⟨cn1, cn2⟩ := new_cells hnw
  obtain ⟨cw1, cw2⟩ := new_cells hw
  refine ⟨_, _, _, _, rfl, ifB_intro (fun h => ?_) (fun _ => ?_)⟩
  · exfalso
    rcases hg3 with h0 | h0 | h0 <;> simp [h0] at h
  refine ⟨fun c => c = decide (i = f ∧ now = was), fun _ => 0, ifB_intro (fun h => ?_) (fun h => ?_), ?_⟩
  · simp at h
    exact Cl.of (ssame_fn now was cn1 cn2) ⟨_, rfl, rfl, by simp [h]⟩
  · simp at h
    exact ⟨rfl, by simp [h]⟩
  rintro _ rfl
  refine ⟨fun c => c = decide (i = 0 ∧ now = s ∧ (f ≠ 0 ∨ was.q ≤ s.q)), fun _ => 0, ifB_intro (fun h => ?_) (fun h => ?_), ?_⟩
  · simp at h
    refine Cl.of (ssame_fn now s cn1 cn2) ⟨_, rfl, rfl, ?_⟩
    by_cases h1 : now = s <;> by_cases h2 : f = 0 <;> by_cases h3 : was.q ≤ s.q <;> simp [h, h1, h2, h3]
  · simp at h
    exact ⟨rfl, by simp [h]⟩
  rintro _ rfl
  refine ⟨fun c => c = decide (f = 0 ∧ s.q < was.q), fun _ => 0, ⟨rfl, ?_⟩, ?_⟩
  · by_cases h2 : f = 0 <;> by_cases h3 : s.q < was.q <;> simp [h2, h3]
  rintro _ rfl
  refine ifB_intro (fun h => ?_) (fun _ => ?_)
  · exfalso
    have k1 := kk.kept
    have k2 := kk.well
    generalize hA : decide (i = f ∧ now = was) = A at h
    generalize hB : decide (i = 0 ∧ now = s ∧ (f ≠ 0 ∨ was.q ≤ s.q)) = Bb at h
    generalize hC : decide (f = 0 ∧ s.q < was.q) = C at h
    have fA : A = false → ¬ (i = f ∧ now = was) := fun e => by rw [e] at hA; exact of_decide_eq_false hA
    have fB : Bb = false → ¬ (i = 0 ∧ now = s ∧ (f ≠ 0 ∨ was.q ≤ s.q)) := fun e => by rw [e] at hB; exact of_decide_eq_false hB
    have fC : C = false → ¬ (f = 0 ∧ s.q < was.q) := fun e => by rw [e] at hC; exact of_decide_eq_false hC
    cases Bb
    · cases A
      · rcases k1 with k | k
        · exact fA rfl k
        · exact fB rfl k
      · by_cases hg0 : g = 0
        · rcases k2 hg0 with k | k
          · exact fB rfl k
          · cases C
            · exact fC rfl k
            · simp at h
        · simp [hg0] at h
    · simp at h
  have hrl : rlen (fR u.fs) = u.fs.length := by simp [rlen]
  have hul : u.fs.length ≤ 64 := up.1.1
  refine ⟨fun k => 0 ≤ k ∧ k ≤ u.fs.length, fun k => (u.fs.length - k).toNat, ⟨by omega, by omega⟩, ?_⟩
  rintro k ⟨k0, k1⟩
  rw [hrl]
  refine ifB_intro (fun hl => ?_) (fun _ => ?_)
  · simp at hl
    have hlt : k.toNat < u.fs.length := by omega
    have w : wadd IntKind.i64 k 1 = k + 1 := wadd_i64 (by omega) (by omega)
    have hg : rget (fR u.fs) k = [S u.fs[k.toNat].nm, SL 1 (uR u.fs[k.toNat].su), SL 1 (uR u.fs[k.toNat].lo)] := by simp [rget, hlt]
    have hm : Nat.le (Nat.succ (u.fs.length - (k + 1)).toNat) (u.fs.length - k).toNat := mlt (by omega)
    have hmem := List.getElem_mem hlt
    rw [w]
    refine ⟨⟨k0, hl⟩, _, _, _, hg, ifB_intro (fun _ => ⟨rfl, ⟨by omega, by omega⟩, hm⟩) (fun h1 => Cl.of (nname_fn s.q) ?_)⟩
    rw [if_pos (stP_q hsp)]
    refine ⟨_, rfl, ifB_intro (fun _ => ⟨rfl, ⟨by omega, by omega⟩, hm⟩) (fun h2 => ?_)⟩
    rw [seq_d] at h1 h2
    have n1 : u.fs[k.toNat].nm ≠ tmpB := of_decide_eq_false h1
    have n2 : u.fs[k.toNat].nm ≠ snNm s.q := of_decide_eq_false h2
    have hbm := kk.files _ hmem n1 n2
    have hnm := bp.2.2.1 _ hbm
    have hrd : opRead b u.fs[k.toNat].nm = (u.fs[k.toNat].su, 0) := by
      unfold opRead
      rw [er_ok bp bd hnm hnm, (get_iff bp.2.2.2).2 ⟨hbm, rfl⟩]
      simp [ulo _ hmem]
    refine Cl.of (dread_fn b bok _) ⟨_, _, rfl, ?_⟩
    rw [hrd]
    refine ⟨fun c => c = false, fun _ => 0, ifB_intro (fun h => by simp at h) (fun _ => ?_), ?_⟩
    · refine ⟨isBytes_u _, ⟨k0, hl⟩, _, _, _, hg, isBytes_u _, rfl, ?_⟩
      simp [sne]
    · rintro _ rfl
      exact ifB_intro (fun h => by simp at h) (fun _ => ⟨rfl, ⟨by omega, by omega⟩, hm⟩)
  · obtain ⟨y, j, hy⟩ : ∃ y j, saveD b s = (y, j) := ⟨_, _, rfl⟩
    refine Cl.of (nsave_fn b bok s) ?_
    rw [hy]
    have ypg : y.P ∧ Good y := by
      have sc := save_cases bp bd hsp
      rw [hy] at sc
      cases sc with
      | full => exact ⟨bp, bg⟩
      | down x hp' _ _ hg => exact ⟨hp', hg bg⟩
      | ok x hp' _ _ _ _ hg => exact ⟨hp', hg bg⟩
    refine ⟨_, _, _, _, _, rfl, Cl.ofQ (nnew_fn y (ypg.2.ok ypg.1)) ?_⟩
    rintro r ⟨z, l, rfl, hz⟩
    obtain ⟨_, _, ha⟩ := again bp bd bst hsp hnw hy hz
    obtain ⟨cz1, cz2⟩ := new_cells hz
    refine ⟨_, _, _, _, rfl, ifB_intro (fun _ => rfl) (fun h13 => ?_)⟩
    simp at h13
    rcases ha with ha | ⟨rfl, rfl, ha⟩
    · exact absurd ha h13
    refine ifB_intro (fun _ => Cl.of (ssame_fn z s cz1 cz2) ⟨_, rfl, ifB_intro (fun _ => rfl) (fun hzs => ?_)⟩) (fun h => by simp at h)
    simp at hzs
    rcases ha with ha | ⟨hi, hq, ha⟩
    · exact absurd ha hzs
    subst ha
    -- it is later, and counted ahead
    have hkept := kk.kept
    have hold : i = f ∧ z = was := by
      rcases hkept with k | ⟨_, k, _⟩
      · exact k
      · exact absurd k hzs
    obtain ⟨h1, h2⟩ := hold
    subst h1 h2
    refine ifB_intro (fun _ => Cl.of (ssame_fn z z cz1 cz2) ⟨_, rfl, by simp⟩) (fun h => ?_)
    simp [hi, hq] at h
end Go.Proofs.YtbocfphenkidnaaGreatDoor.Snp
