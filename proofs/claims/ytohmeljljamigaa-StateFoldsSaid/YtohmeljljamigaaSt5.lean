/- Layer 15: StateFolds over plain data. -/
import Derived.Test.YtohmeljljamigaaSt4
import Derived.Test.YtohmeljljamigaaStN4
namespace Go.Proofs.Ytohmeljljamigaa.St
open Go Go.Px Go.Proofs Go.Proofs.Ytohmeljljamigaa.Cmp
set_option maxRecDepth 100000
set_option linter.unusedVariables false

theorem ifB_dup {b : Bool} {X R : Prop} (r : R) (h : R → b = true → X) : ifB b X R := ifB_intro (fun hb => h r hb) (fun _ => r)

theorem new_P {nm : ByteArray} {ro a : Int} (h1 : namB nm = true) (h2 : 1 ≤ ro ∧ ro ≤ 3) (h3 : timP a) : (newC nm ro a).1.P := by
  unfold newC
  rw [if_neg (by simp [h1]), if_neg (by omega), if_neg (by simp [h3])]
  have z : heldP 0 := by decide
  have hh : hisP 0 0 0 0 0 0 0 0 0 0 := by decide
  have bk : bktP 10 10 := by decide
  by_cases h : ro = 1
  · rw [if_pos h]
    have ht := tim_div h3 (w := 10) (by omega)
    have hz : cellsP (zer 4) := cells_zer 4
    have hw : winP 10 (a / 10) (zer 4) := ⟨by decide, ht, by decide, hz⟩
    exact P1 h1 ⟨z, z, z⟩ h ⟨⟨(by decide : (0 : Int) ≤ 0 ∧ (0 : Int) ≤ 2), hw⟩, hh, rfl, rfl⟩
  · rw [if_neg h]
    by_cases h' : ro = 2
    · exact P2 h1 ⟨z, z, z⟩ h' ⟨⟨⟨rfl, rfl, rfl, rfl⟩, ⟨rfl, rfl, rfl, rfl, rfl, rfl, rfl, rfl, rfl⟩, rfl⟩, bk⟩
    · exact P3 h1 ⟨z, z, z⟩ (show ro = 3 by omega) ⟨⟨(by decide : (0 : Int) ≤ 0 ∧ (0 : Int) ≤ 2147483647), rfl, rfl, rfl⟩, hh, bk⟩

theorem nxt_P {d : StD} {e : EvD} (m : MayS d e) : (nxtS d e).P := by
  unfold nxtS
  by_cases hk : e.k = 1
  · rw [if_pos hk]
    obtain ⟨_, hn, hv, ht, _⟩ := chkE_zero m.chk
    have l1 : lo1 e.k = 1 := by simp [lo1, hk]
    have l2 : hi1 e.k = 3 := by simp [hi1, hk]
    exact new_P (by unfold namB; rw [decide_eq_true hn]) (by omega) ht
  · rw [if_neg hk]
    obtain ⟨i, hi, h1, h2, h3⟩ := m.old hk
    rw [h1, getD_at hi]
    exact tell_P (may_zero.1 h3)

theorem app_P {d : StD} {e : EvD} (h : (appS d e).2 = 0) : (appS d e).1.P ∧ (appS d e).1.q = d.q + 1 ∧ d.t ≤ (appS d e).1.t := by
  obtain ⟨hm, ea⟩ := app_zero h
  have m := mayS_zero hm
  obtain ⟨_, _, _, ht, hq⟩ := chkE_zero m.chk
  have hl := m.p.1.1
  rw [ea]
  refine ⟨⟨⟨?_, hq.1, hq.2, ht.1, ht.2⟩, fun c hc => ?_, srt_withB m.p.2.2⟩, m.sq, m.tm⟩
  · show (withB CoD.nm d.cs (nxtS d e)).length ≤ 12
    rw [nxt_len m]
    split
    · have := (m.new (by assumption)).2; omega
    · omega
  · rcases mem_withB.1 hc with rfl | ⟨hc, _⟩
    · exact nxt_P m
    · exact m.p.2.1 c hc

theorem fold_P : ∀ (l : List EvD) {d : StD}, d.P → (foldS d l).1.P ∧ (foldS d l).1.q = d.q + (foldS d l).2.1 ∧ d.t ≤ (foldS d l).1.t
  | [], d, h => ⟨h, by simp [foldS], Int.le_refl _⟩
  | e :: l, d, h => by
    rw [fold_cons]
    split
    · exact ⟨h, by simp, Int.le_refl _⟩
    · rename_i h0
      have h0 : (appS d e).2 = 0 := by simpa using h0
      obtain ⟨h1, h2, h3⟩ := app_P h0
      obtain ⟨g1, g2, g3⟩ := fold_P l h1
      refine ⟨g1, ?_, Int.le_trans h3 g3⟩
      dsimp only
      rw [g2, h2]; omega

theorem fold_len : ∀ (l : List EvD) (d : StD), (foldS d l).2.1 ≤ l.length
  | [], d => by simp [foldS]
  | e :: l, d => by
    rw [fold_cons]
    split
    · simp
    · have := fold_len l (appS d e).1
      simp; omega

theorem fold_err : ∀ (l : List EvD) {d : StD}, (foldS d l).2.2 ≠ 0 → ∃ h : (foldS d l).2.1 < l.length, mayS (foldS d l).1 l[(foldS d l).2.1] = (foldS d l).2.2
  | [], d, h => by simp [foldS] at h
  | e :: l, d, h => by
    by_cases h0 : (appS d e).2 = 0
    · have ef := fold_cons d e l
      rw [if_neg (by simp [h0])] at ef
      rw [ef] at h
      obtain ⟨h1, h2⟩ := fold_err l h
      rw [ef]
      exact ⟨by simpa using h1, by simpa using h2⟩
    · have ef := fold_cons d e l
      rw [if_pos h0] at ef
      rw [ef]
      exact ⟨by simp, by simpa using (app_code d e).symm⟩

theorem fold_app : ∀ (l m : List EvD) (d : StD), ((foldS d l).2.2 ≠ 0 → foldS d (l ++ m) = foldS d l) ∧
    ((foldS d l).2.2 = 0 → (foldS d l).2.1 = l.length ∧ foldS d (l ++ m) = ((foldS (foldS d l).1 m).1, l.length + (foldS (foldS d l).1 m).2.1, (foldS (foldS d l).1 m).2.2))
  | [], m, d => ⟨fun h => by simp [foldS] at h, fun _ => ⟨rfl, by simp [foldS]⟩⟩
  | e :: l, m, d => by
    have ef := fold_cons d e l
    have em := fold_cons d e (l ++ m)
    rw [List.cons_append]
    by_cases h0 : (appS d e).2 = 0
    · rw [if_neg (by simp [h0])] at ef em
      obtain ⟨h1, h2⟩ := fold_app l m (appS d e).1
      rw [ef, em]
      refine ⟨fun h => ?_, fun h => ?_⟩
      · rw [h1 h]
      · obtain ⟨g1, g2⟩ := h2 h
        rw [g2]
        refine ⟨by simp [g1], ?_⟩
        simp; omega
    · rw [if_pos h0] at ef em
      rw [ef, em]
      exact ⟨fun _ => rfl, fun h => absurd h h0⟩

theorem law8_fn (d : StD) (hl : d.cs.length ≤ 9223372036854775807) (l : List EvD) (hel : l.length ≤ 9223372036854775807) (n : Int) (hn : 0 ≤ n ∧ n ≤ 255) :
    Ct Try.prog 8 {} [d.sv, SL 7 (eR l), U8 n] (fun r => r = [B true]) := by
  refine law8_nf _ _ _ _ _ _ (Cl.of sawake_fn ⟨_, rfl, ifB_intro (fun h => by simp at h) (fun _ => ?_)⟩)
  refine Cl.of (sshort_fn d hl) ⟨_, rfl, ifB_intro (fun _ => rfl) (fun h2 => Cl.of (snames_fn l hel) ⟨_, rfl, ifB_intro (fun _ => rfl) (fun h3 => ?_)⟩)⟩
  have h1 : d.short := by simp at h2; exact h2.1
  have hl40 : l.length ≤ 40 := by simp at h2; omega
  have hd := short_lim h1
  obtain ⟨K, hk, hK⟩ : ∃ K : Nat, wrem (wcv .i64 n) (wadd .i64 (rlen (eR l)) 1) = (K : Int) ∧ K ≤ l.length := by
    refine ⟨n.toNat % (l.length + 1), ?_, ?_⟩
    · have e1 : wcv .i64 n = n := wrap_i64 (by omega) (by omega)
      have e2 : wadd .i64 (rlen (eR l)) 1 = ((l.length + 1 : Nat) : Int) := by rw [rlen_eq, List.length_map, waddN _ (by omega)]
      rw [e1, e2]
      unfold wrem
      rw [Int.tmod_eq_emod_of_nonneg hn.1]
      have e3 : n = (n.toNat : Int) := by omega
      rw [e3]; simp
    · have := Nat.mod_lt n.toNat (show 0 < l.length + 1 by omega); omega
  have hnz : wadd .i64 (rlen (eR l)) 1 = 0 → False := by
    rw [rlen_eq, List.length_map, waddN _ (by omega)]; omega
  refine ⟨hnz, Cl.of (sfold_fn d hd l hel) ⟨_, _, _, _, _, rfl, ?_⟩⟩
  rw [hk]
  have s1 : rsub (eR l) 0 (K : Int) = eR (l.take K) := by rw [rsub_map]; simp
  have s2 : rsub (eR l) (K : Int) (rlen (eR l)) = eR (l.drop K) := by rw [rsub_map]; simp
  rw [s1, s2]
  have lw := lim_fold l hd
  have la := lim_fold (l.take K) hd
  have lb := lim_fold (l.drop K) la
  have cA := sfold_fn d hd (l.take K) (by simp; omega)
  have cB := sfold_fn (foldS d (l.take K)).1 la (l.drop K) (by simp; omega)
  have A := fold_app (l.take K) (l.drop K) d
  rw [List.take_append_drop] at A
  have hP := fun h => fold_P l (d := d) h
  have hN := fold_len l d
  have hB := fold_len (l.drop K) (foldS d (l.take K)).1
  have hE := fold_err (l.take K) (d := d)
  have hi := fold_len (l.take K) d
  generalize foldS d l = W at lw A hP hN
  obtain ⟨W, N, E⟩ := W
  have tl : (l.take K).length = K := by simp; omega
  refine ⟨fun x y r q t => x = (foldS d (l.take K)).2.1 ∧ y = (foldS d (l.take K)).2.2 ∧ r = coR (foldS d (l.take K)).1.cs ∧ q = (foldS d (l.take K)).1.q ∧ t = (foldS d (l.take K)).1.t, fun _ _ _ _ _ => 0,
    ⟨⟨by omega, by omega, by simp; omega⟩, Cl.of cA ⟨_, _, _, _, _, rfl, rfl, rfl, rfl, rfl, rfl, rfl⟩, Cl.of cA ⟨_, _, _, _, _, rfl, rfl, rfl, rfl, rfl, rfl, rfl⟩⟩, ?_⟩
  rintro _ _ _ _ _ ⟨rfl, rfl, rfl, rfl, rfl⟩
  generalize foldS d (l.take K) = a at la lb cB A hB hE hi
  obtain ⟨a, i, f⟩ := a
  dsimp only at la lb cB A hB hE hi lw hP hN ⊢
  have cells : ∀ {s : StD}, lim s → ∀ c ∈ s.cs, c.cl.length ≤ 1000000 := fun h c hc => by have := h.2 c hc; omega
  refine Cl.of (sright_fn d) ⟨_, rfl, ifB_dup ?_ (fun r hb => Cl.of (sright_fn W) ⟨_, rfl, ifB_intro (fun h => ?_) (fun _ => r)⟩)⟩
  · refine ifB_intro (fun h => ?_) (fun h => ?_)
    · have h : f ≠ 0 := by simpa using h
      have hw := A.1 h
      obtain ⟨h5, h6⟩ := hE h
      injection hw with w1 w2
      injection w2 with w2 w3
      subst w1 w2 w3
      refine ifB_intro (fun _ => ?_) (fun z => by simp at z; omega)
      refine Cl.of (ssame_fn W W (by have := lw.1; omega) (cells lw)) ⟨_, rfl, ifB_intro (fun _ => ?_) (fun z => by simp at z)⟩
      have hil : N < l.length := by omega
      refine ⟨⟨by omega, by simpa using hil⟩, _, _, _, _, _, _, _, rget_map _ _ _ hil, Cl.of (smay_fn W (by have := lw.1; omega) l[N]) ⟨_, rfl, ?_⟩⟩
      rw [List.getElem_take] at h6
      rw [h6]; simp
    · have h : f = 0 := by simpa using h
      obtain ⟨g1, g2⟩ := A.2 h
      rw [tl] at g1 g2
      injection g2 with w1 w2
      injection w2 with w2 w3
      refine ⟨fun x y r q t => x = (foldS a (l.drop K)).2.1 ∧ y = (foldS a (l.drop K)).2.2 ∧ r = coR (foldS a (l.drop K)).1.cs ∧ q = (foldS a (l.drop K)).1.q ∧ t = (foldS a (l.drop K)).1.t, fun _ _ _ _ _ => 0,
        ⟨⟨by omega, by simp; omega, Int.le_refl _⟩, Cl.of cB ⟨_, _, _, _, _, rfl, rfl, rfl, rfl, rfl, rfl, rfl⟩, Cl.of cB ⟨_, _, _, _, _, rfl, rfl, rfl, rfl, rfl, rfl, rfl⟩⟩, ?_⟩
      rintro _ _ _ _ _ ⟨rfl, rfl, rfl, rfl, rfl⟩
      have hdl : (l.drop K).length ≤ 40 := by simp; omega
      generalize foldS a (l.drop K) = b at w1 w2 w3 hB lb
      obtain ⟨b, j, g⟩ := b
      dsimp only at w1 w2 w3 hB lb ⊢
      rw [waddNN _ _ (by omega)]
      subst w1 w2 w3 g1
      refine ifB_intro (fun _ => ?_) (fun z => by simp at z)
      refine Cl.of (ssame_fn W W (by have := lw.1; omega) (cells lw)) ⟨_, rfl, ?_⟩
      simp
  · exfalso
    have hp : d.P := by simpa using hb
    obtain ⟨p1, p2, p3⟩ := hP hp
    have hq := hp.1.2.2.1
    have hq0 := hp.1.2.1
    have w : wadd .i64 d.q (N : Int) = d.q + N := wadd_i64 (by omega) (by omega)
    rw [w] at h
    simp [p1, p2] at h
    omega
end Go.Proofs.Ytohmeljljamigaa.St
