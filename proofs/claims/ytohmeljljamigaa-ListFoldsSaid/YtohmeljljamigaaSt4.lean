/- Layer 15: many events; the fixed answer; StateRight over plain data. -/
import Derived.Test.YtohmeljljamigaaSt13
namespace Go.Proofs.Ytohmeljljamigaa.St
open Go Go.Px Go.Proofs Go.Proofs.Ytohmeljljamigaa.Cmp
set_option maxRecDepth 100000
set_option linter.unusedVariables false

/-- A state that is small. -/
def lim (d : StD) : Prop := d.cs.length ≤ 20 ∧ ∀ c ∈ d.cs, c.cl.length ≤ 40
instance (d : StD) : Decidable (lim d) := inferInstanceAs (Decidable (_ ∧ _))

theorem new_cl (nm : ByteArray) (ro a : Int) : (newC nm ro a).1.cl.length ≤ 40 := by
  unfold newC
  repeat' split
  all_goals simp [co0]

theorem nxt_cl {d : StD} {e : EvD} (h : lim d) (m : MayS d e) : (nxtS d e).cl.length ≤ 40 := by
  unfold nxtS
  by_cases hk : e.k = 1
  · rw [if_pos hk]; exact new_cl _ _ _
  · rw [if_neg hk]
    obtain ⟨i, hi, h1, h2, h3⟩ := m.old hk
    rw [h1, getD_at hi]
    have := h.2 _ (List.getElem_mem hi)
    rcases tell_cl (may_zero.1 h3) with h4 | h4 <;> omega

theorem nxt_len {d : StD} {e : EvD} (m : MayS d e) : (withB CoD.nm d.cs (nxtS d e)).length = d.cs.length + (if e.k = 1 then 1 else 0) := by
  have hn := nxt_nm m
  by_cases hk : e.k = 1
  · rw [if_pos hk, withB_new (by rw [hn]; exact fAt_none.1 (m.new hk).1), len_insB]
  · rw [if_neg hk]
    obtain ⟨i, hi, h1, h2, h3⟩ := m.old hk
    rw [len_withB_old m.p.2.2 hi (by rw [hn, h2])]; rfl

theorem app_zero {d : StD} {e : EvD} (h : (appS d e).2 = 0) : mayS d e = 0 ∧ appS d e = (⟨withB CoD.nm d.cs (nxtS d e), e.s, e.a⟩, 0) := by
  unfold appS at h ⊢
  by_cases hm : mayS d e = 0
  · exact ⟨hm, by rw [if_neg (by simp [hm])]⟩
  · rw [if_pos hm] at h; exact absurd h hm
theorem app_err {d : StD} {e : EvD} (h : (appS d e).2 ≠ 0) : appS d e = (d, mayS d e) := by
  unfold appS at h ⊢
  by_cases hm : mayS d e = 0
  · rw [if_neg (by simp [hm])] at h; exact absurd rfl h
  · rw [if_pos hm]
theorem app_code (d : StD) (e : EvD) : (appS d e).2 = mayS d e := by
  unfold appS; split
  · rfl
  · rename_i h; simp at h; rw [h]

theorem lim_app {d : StD} (h : lim d) (e : EvD) : lim (appS d e).1 := by
  by_cases h0 : (appS d e).2 = 0
  · obtain ⟨hm, ea⟩ := app_zero h0
    have m := mayS_zero hm
    rw [ea]
    refine ⟨?_, fun c hc => ?_⟩
    · show (withB CoD.nm d.cs (nxtS d e)).length ≤ 20
      rw [nxt_len m]
      have := m.p.1.1
      split <;> omega
    · rcases mem_withB.1 hc with rfl | ⟨hc, _⟩
      · exact nxt_cl h m
      · exact h.2 c hc
  · rw [app_err h0]; exact h

theorem fold_cons (d : StD) (e : EvD) (l : List EvD) : foldS d (e :: l) = if (appS d e).2 ≠ 0 then (d, 0, (appS d e).2) else ((foldS (appS d e).1 l).1, (foldS (appS d e).1 l).2.1 + 1, (foldS (appS d e).1 l).2.2) := rfl

theorem lim_fold : ∀ (l : List EvD) {d : StD}, lim d → lim (foldS d l).1
  | [], _, h => h
  | e :: l, d, h => by
    rw [fold_cons]
    split
    · exact h
    · exact lim_fold l (lim_app h e)

/-- How a fold goes on. -/
def goes (d : StD) (l : List EvD) (i : Nat) (d' : StD) : Prop := foldS d l = ((foldS d' (l.drop i)).1, i + (foldS d' (l.drop i)).2.1, (foldS d' (l.drop i)).2.2)
theorem goes_step {d d' : StD} {l : List EvD} {i : Nat} (hi : i < l.length) (h : goes d l i d') (h0 : (appS d' l[i]).2 = 0) : goes d l (i + 1) (appS d' l[i]).1 := by
  unfold goes at h ⊢
  rw [h, List.drop_eq_getElem_cons hi, fold_cons, if_neg (by simp [h0])]
  simp; omega
theorem goes_stop {d d' : StD} {l : List EvD} {i : Nat} (hi : i < l.length) (h : goes d l i d') (h0 : (appS d' l[i]).2 ≠ 0) : foldS d l = (d', i, (appS d' l[i]).2) := by
  unfold goes at h
  rw [h, List.drop_eq_getElem_cons hi, fold_cons, if_pos h0]
  simp
theorem goes_end {d d' : StD} {l : List EvD} {i : Nat} (hi : l.length ≤ i) (h : goes d l i d') : foldS d l = (d', i, 0) := by
  unfold goes at h
  rw [h, List.drop_eq_nil_of_le hi]; rfl

theorem sfold_fn (d : StD) (hd : lim d) (l : List EvD) (hl : l.length ≤ 9223372036854775807) : Ct Try.prog 54 {} [d.sv, SL 7 (eR l)] (fun r => r = [(foldS d l).1.sv, I (foldS d l).2.1, I (foldS d l).2.2]) := by
  refine sfold_nf _ _ _ _ _ ⟨fun x r q t => ∃ (d' : StD) (i : Nat), x = i ∧ i ≤ l.length ∧ r = coR d'.cs ∧ q = d'.q ∧ t = d'.t ∧ lim d' ∧ goes d l i d', fun x _ _ _ => l.length - x.toNat, ⟨d, 0, rfl, by omega, rfl, rfl, rfl, hd, by simp [goes]⟩, ?_⟩
  rintro _ _ _ _ ⟨d', i, rfl, hi, rfl, rfl, rfl, hd', hg⟩
  refine ifB_intro (fun h => ?_) (fun h => ?_)
  · have h : i < l.length := by simpa using h
    rw [waddN _ (by omega)]
    refine ⟨⟨by omega, by simpa using h⟩, _, _, _, _, _, _, _, rget_map _ _ _ h, Cl.of (sapply_fn d' (by have := hd'.1; omega) l[i]) ⟨_, _, _, _, rfl, ifB_intro (fun z => ?_) (fun z => ⟨rfl, ⟨_, i + 1, rfl, by omega, rfl, rfl, rfl, lim_app hd' _, goes_step h hg (by simpa using z)⟩, stepL (by simp; omega)⟩)⟩⟩
    rw [goes_stop h hg (by simpa using z)]
  · have h : ¬ i < l.length := by simpa using h
    have : i = l.length := by omega
    rw [goes_end (by omega) hg, this]
    simp

theorem srfold_fn (d : StD) (hd : lim d) (l : List EvD) (hl : l.length ≤ 9223372036854775807) : Ct Try.prog 55 {} [d.sv, SL 7 (eR l)] (fun r => r = [(foldS d l).1.sv, I (foldS d l).2.1, I (foldS d l).2.2]) := by
  refine srfold_nf _ _ _ _ _ ⟨fun x r q t => ∃ (d' : StD) (i : Nat), x = i ∧ i ≤ l.length ∧ r = coR d'.cs ∧ q = d'.q ∧ t = d'.t ∧ lim d' ∧ goes d l i d', fun x _ _ _ => l.length - x.toNat, ⟨d, 0, rfl, by omega, rfl, rfl, rfl, hd, by simp [goes]⟩, ?_⟩
  rintro _ _ _ _ ⟨d', i, rfl, hi, rfl, rfl, rfl, hd', hg⟩
  refine ifB_intro (fun h => ?_) (fun h => ?_)
  · have h : i < l.length := by simpa using h
    have c := srapply_fn d' (by have := hd'.1; omega) l[i]
    rw [waddN _ (by omega)]
    refine ⟨fun x r q t => x = (appS d' l[i]).2 ∧ r = coR (appS d' l[i]).1.cs ∧ q = (appS d' l[i]).1.q ∧ t = (appS d' l[i]).1.t, fun _ _ _ _ => 0, ⟨⟨by omega, by simpa using h⟩, _, _, _, _, _, _, _, rget_map _ _ _ h, Cl.of c ⟨_, _, _, _, rfl, rfl, rfl, rfl, rfl, rfl⟩, Cl.of c ⟨_, _, _, _, rfl, rfl, rfl, rfl, rfl, rfl⟩⟩, ?_⟩
    rintro _ _ _ _ ⟨rfl, rfl, rfl, rfl⟩
    refine ifB_intro (fun z => ?_) (fun z => ⟨rfl, ⟨_, i + 1, rfl, by omega, rfl, rfl, rfl, lim_app hd' _, goes_step h hg (by simpa using z)⟩, stepL (by simp; omega)⟩)
    rw [goes_stop h hg (by simpa using z)]
  · have h : ¬ i < l.length := by simpa using h
    have : i = l.length := by omega
    rw [goes_end (by omega) hg, this]
    simp

def awE : List EvD := [⟨1, 3, 1, ⟨#[98]⟩, 1, 0, 0⟩, ⟨2, 3, 1, ⟨#[97]⟩, 2, 0, 0⟩, ⟨3, 4, 5, ⟨#[97]⟩, 1, 0, 0⟩, ⟨4, 4, 5, ⟨#[98]⟩, 0, 0, 0⟩]
def awF : StD × Nat × Int := foldS ⟨[], 0, 0⟩ awE

theorem sawake_fn : Ct Try.prog 42 {} [] (fun r => r = [B true]) := by
  refine sawake_nf _ ?_
  have e1 : awF.2.1 = 3 := by decide +kernel
  have e2 : awF.2.2 = 8 := by decide +kernel
  have e3 : awF.1.cs.length = 2 := by decide +kernel
  have e4 : (awF.1.cs.getD 0 co0).nm = ⟨#[97]⟩ ∧ (awF.1.cs.getD 0 co0).ha = 9 := by decide +kernel
  have e5 : awF.1.q = 3 ∧ awF.1.t = 4 := by decide +kernel
  have e6 : fAt CoD.nm awF.1.cs ⟨#[98]⟩ = 1 := by decide +kernel
  have e7 : awF.1.P := by decide +kernel
  have cf := sfold_fn ⟨[], 0, 0⟩ ⟨by decide, by decide⟩ awE (by decide)
  change Ct _ _ _ _ (fun r => r = [awF.1.sv, I awF.2.1, I awF.2.2]) at cf
  generalize awF = F at *
  obtain ⟨d, n, x⟩ := F
  dsimp only at *
  subst e1 e2
  have h0 : 0 < d.cs.length := by omega
  have hr : (0 : Int) ≤ (0 : Int) ∧ (0 : Int) < rlen (coR d.cs) := ⟨by omega, by simp; omega⟩
  have hg : rget (coR d.cs) 0 = CoD.row d.cs[0] := rget_map CoD.row d.cs 0 h0
  have e4 : d.cs[0].nm = ⟨#[97]⟩ ∧ d.cs[0].ha = 9 := by simpa [h0] using e4
  refine Cl.of cf ⟨_, _, _, _, _, rfl, ifB_intro (fun _ => ?_) (fun h => by simp [e3] at h)⟩
  refine ⟨hr, _, _, _, _, _, _, _, _, _, _, _, _, _, _, _, _, _, _, _, _, _, hg, ifB_intro (fun _ => ⟨hr, _, _, _, _, _, _, _, _, _, _, _, _, _, _, _, _, _, _, _, _, _, hg, ?_⟩) (fun h => by rw [seq_d, e4.1] at h; simp at h)⟩
  refine ifB_intro (fun _ => ?_) (fun h => by simp [e4.2, e5] at h)
  refine Cl.of (sfind_fn d (by omega) _) ⟨_, rfl, ifB_intro (fun _ => ?_) (fun h => by rw [e6] at h; simp at h)⟩
  refine Cl.of (sright_fn d) ⟨_, rfl, ?_⟩
  rw [decide_eq_true e7]

theorem short_lim {d : StD} (h : d.short) : lim d := ⟨h.2, fun c hc => (h.1 c hc).2⟩

end Go.Proofs.Ytohmeljljamigaa.St
