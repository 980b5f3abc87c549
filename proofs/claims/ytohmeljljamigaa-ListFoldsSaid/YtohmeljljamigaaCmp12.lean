/- What is told keeps a component right; what it counts. -/
import Derived.Test.YtohmeljljamigaaCmp11
namespace Go.Proofs.Ytohmeljljamigaa.Cmp
open Go Go.Px Go.Proofs
set_option maxRecDepth 100000
set_option linter.unusedVariables false

theorem P_cnt {c : CoD} (i : Int) (h : c.P) : (cntC c i).P := by
  refine ⟨⟨h.1.1, ?_, ?_, ?_⟩, h.2⟩
  · show heldP (if i = 0 then upI c.c0 1 else c.c0)
    split
    · exact up_held _ _
    · exact h.1.2.1
  · show heldP (if i = 1 then upI c.c1 1 else c.c1)
    split
    · exact up_held _ _
    · exact h.1.2.2.1
  · show heldP (if i = 2 then upI c.c2 1 else c.c2)
    split
    · exact up_held _ _
    · exact h.1.2.2.2

theorem hc_held {n k v : Int} (h : heldP v) : heldP (hcI n k v) := by
  unfold hcI
  split
  · exact up_held _ _
  · exact h
theorem his_had {c : CoD} (n : Int) (h : c.his) : (hadC c n).his := by
  unfold hadC
  split
  · obtain ⟨a0, a1, a2, a3, a4, a5, a6, a7, a8, a9⟩ := h
    exact ⟨hc_held a0, hc_held a1, hc_held a2, hc_held a3, hc_held a4, hc_held a5, hc_held a6, hc_held a7, hc_held a8, up_held _ _⟩
  · exact h
theorem cells_zer (n : Nat) : cellsP (zer n) := fun c hc => by
  rw [(List.mem_replicate.1 hc).2]
  exact ⟨⟨by decide, by decide⟩, ⟨by decide, by decide⟩⟩
theorem tim_div {a w : Int} (h : timP a) (hw : 1 ≤ w) : timP (a / w) := by
  refine ⟨Int.ediv_nonneg h.1 (by omega), ?_⟩
  have h1 : a / w ≤ a := Int.ediv_le_self w h.1
  have := h.2
  omega
theorem cells_add {cl : List (Int × Int)} (h : cellsP cl) (i : Int) (ok : Bool) : cellsP (addL cl i ok) := by
  intro c hc
  rcases List.mem_or_eq_of_mem_set hc with hc | rfl
  · exact h c hc
  · have : heldP (ceAt cl i).1 ∧ heldP (ceAt cl i).2 := by
      unfold ceAt
      rw [List.getD_eq_getElem?_getD]
      cases e : cl[i.toNat]? with
      | none => exact ⟨⟨by decide, by decide⟩, ⟨by decide, by decide⟩⟩
      | some v => exact h v (List.mem_of_getElem? e)
    unfold ceU
    cases ok
    · exact ⟨this.1, up_held _ _⟩
    · exact ⟨up_held _ _, this.2⟩
theorem cells_mv {cl : List (Int × Int)} (h : cellsP cl) (sl slot : Int) : cellsP (mvL sl slot cl) := by
  intro c hc
  simp only [mvL, List.mem_map, List.mem_range] at hc
  obtain ⟨p, hp, rfl⟩ := hc
  split
  · exact ⟨⟨by decide, by decide⟩, ⟨by decide, by decide⟩⟩
  · rw [List.getD_eq_getElem?_getD, List.getElem?_eq_getElem hp]
    exact h _ (List.getElem_mem hp)
theorem win_wad {wd sl a : Int} {cl : List (Int × Int)} (h : winP wd sl cl) (ha : timP a) (ok : Bool) : winP wd (wadS wd sl cl a ok).1 (wadS wd sl cl a ok).2 := by
  obtain ⟨h1, h2, h3, h4⟩ := h
  refine ⟨h1, ?_, by rw [wadS_len]; exact h3, ?_⟩
  · unfold wadS
    split
    · split <;> exact h2
    · exact tim_div ha h1.1
  · unfold wadS
    split
    · split
      · exact h4
      · exact cells_add h4 _ _
    · exact cells_add (cells_mv h4 _ _) _ _

theorem bkt_take {rm ha n : Int} (h : bktP rm ha) : bktP rm (takeH rm ha n) := by
  unfold takeH
  split
  · unfold bktP at *; omega
  · exact h
theorem bkt_put {rm ha n : Int} (h : bktP rm ha) : bktP rm (putH rm ha n) := by
  unfold putH
  split
  · unfold bktP at *; omega
  · exact h

theorem P1 {c : CoD} (hn : namB c.nm = true) (hc : c.cntP) (hr : c.ro = 1) (h : ((0 ≤ c.mo ∧ c.mo ≤ 2) ∧ winP c.wd c.sl c.cl) ∧ c.his ∧ (c.rm = 0 ∧ c.ha = 0)) : c.P := ⟨⟨hn, hc⟩, by unfold CoD.roleP; rw [if_pos hr]; exact h⟩
theorem P2 {c : CoD} (hn : namB c.nm = true) (hc : c.cntP) (hr : c.ro = 2) (h : ((c.mo = 0 ∧ c.bare) ∧ c.his0) ∧ bktP c.rm c.ha) : c.P := ⟨⟨hn, hc⟩, by unfold CoD.roleP; rw [if_neg (by omega), if_pos hr]; exact h⟩
theorem P3 {c : CoD} (hn : namB c.nm = true) (hc : c.cntP) (hr : c.ro = 3) (h : ((0 ≤ c.mo ∧ c.mo ≤ 2147483647) ∧ c.bare) ∧ c.his ∧ bktP c.rm c.ha) : c.P := ⟨⟨hn, hc⟩, by unfold CoD.roleP; rw [if_neg (by omega), if_neg (by omega)]; exact ⟨hr, h⟩⟩

theorem tell_P {c : CoD} {e : EvD} (ok : MayOK c e) : (tellC c e).P := by
  have hP := ok.right
  obtain ⟨r1, r2, r3⟩ := role_of ok
  obtain ⟨k0, _, kv, ha, _⟩ := chkE_zero ok.chk
  have hlo := hi_le e.k
  have hn := hP.1.1
  have hc := hP.1.2
  unfold tellC
  split
  · rename_i k2
    have cfg := ok.cfg k2
    unfold cfgP at cfg
    split
    · rename_i hr
      rw [if_pos hr] at cfg
      have q := right1 hP hr
      refine P1 hn hc hr ⟨⟨q.1.1, ⟨⟨cfg.1.1.1, by show e.x ≤ _; omega⟩, tim_div ha cfg.1.1.1, ?_, cells_zer _⟩⟩, q.2⟩
      simp only [zer, List.length_replicate]; omega
    · split
      · rename_i hr1 hr
        rw [if_neg hr1, if_pos hr] at cfg
        have q := right2 hP hr
        refine P2 hn hc hr ⟨q.1, ?_⟩
        show bktP e.x e.y
        unfold bktP; omega
      · rename_i hr1 hr2
        have hr : c.ro = 3 := by have := ro_range hP; omega
        have q := right3 hP hr
        refine P3 hn hc hr ⟨q.1, q.2.1, ?_⟩
        show bktP e.x e.x
        unfold bktP; omega
  · split
    · rename_i k2 k3
      have hr := r1 (.inl k3)
      have q := right1 hP hr
      obtain ⟨e1, e2, e3, e4, e5, e6, e7, e8, e9, e10, e11⟩ := hadC_rest (winC c e) e.y
      refine P_cnt _ (P1 (by rw [e1]; exact hn) ⟨by rw [e9]; exact hc.1, by rw [e10]; exact hc.2.1, by rw [e11]; exact hc.2.2⟩ (by rw [e2]; exact hr) ⟨⟨by rw [e3]; exact q.1.1, ?_⟩, his_had _ q.2.1, by rw [e7, e8]; exact q.2.2⟩)
      rw [e4, e5, e6]
      exact win_wad q.1.2 ha _
    · split
      · rename_i k2 k3 k4
        have hr := r1 (.inr k4)
        have q := right1 hP hr
        have hx : 0 ≤ e.x ∧ e.x ≤ 2 := by
          rw [k4] at kv
          simp [lo1, hi1] at kv
          omega
        split
        · refine P1 hn hc hr ⟨⟨hx, ⟨q.1.2.1, tim_div ha q.1.2.1.1, ?_, cells_zer _⟩⟩, q.2⟩
          simp only [zer, List.length_replicate]; exact q.1.2.2.2.1
        · exact P1 hn hc hr ⟨⟨hx, q.1.2⟩, q.2⟩
      · split
        · rename_i k5
          have hr := r2 (.inl k5)
          have q := right2 hP hr
          exact P_cnt _ (P2 hn hc hr ⟨q.1, bkt_take q.2⟩)
        · split
          · exact P_cnt _ hP
          · split
            · rename_i k7
              have hr := r2 (.inr (.inr k7))
              have q := right2 hP hr
              exact P_cnt _ (P2 hn hc hr ⟨q.1, bkt_put q.2⟩)
            · split
              · rename_i k8
                have hr := r3 (.inl k8)
                have q := right3 hP hr
                exact P_cnt _ (P3 hn hc hr ⟨⟨⟨by show 0 ≤ e.x; omega, by show e.x ≤ _; omega⟩, q.1.2⟩, q.2.1, bkt_take q.2.2⟩)
              · split
                · rename_i k9
                  have hr := r3 (.inr (.inl k9))
                  have q := right3 hP hr
                  obtain ⟨e1, e2, e3, e4, e5, e6, e7, e8, e9, e10, e11⟩ := hadC_rest c e.x
                  refine P_cnt _ (P3 (by rw [e1]; exact hn) ⟨by rw [e9]; exact hc.1, by rw [e10]; exact hc.2.1, by rw [e11]; exact hc.2.2⟩ (by rw [e2]; exact hr) ⟨⟨by rw [e3]; exact q.1.1, ?_⟩, his_had _ q.2.1, by rw [e7, e8]; exact q.2.2⟩)
                  unfold CoD.bare
                  rw [e4, e5, e6]
                  exact q.1.2
                · have k1 := ok.k1
                  have hr : c.ro = 3 := r3 (.inr (.inr (by omega)))
                  have q := right3 hP hr
                  exact P_cnt _ (P3 hn hc hr ⟨⟨⟨by show (0 : Int) ≤ 0; decide, by show (0 : Int) ≤ _; decide⟩, q.1.2⟩, q.2⟩)

theorem tell_nm (c : CoD) (e : EvD) : (tellC c e).nm = c.nm ∧ (tellC c e).ro = c.ro := by
  have hh := fun (d : CoD) (n : Int) => hadC_rest d n
  unfold tellC
  repeat' split
  all_goals first | exact ⟨rfl, rfl⟩ | exact ⟨(hh _ _).1, (hh _ _).2.1⟩

/-- Where it counts: at one place, or at none. -/
theorem tell_cnt {c : CoD} {e : EvD} (ok : MayOK c e) : ∃ p : Int, (p = 0 ∨ p = 1 ∨ p = 2 ∨ p = 3) ∧ (p = 3 ↔ (e.k = 2 ∨ e.k = 4)) ∧ (tellC c e).c0 = (if p = 0 then upI c.c0 1 else c.c0) ∧ (tellC c e).c1 = (if p = 1 then upI c.c1 1 else c.c1) ∧ (tellC c e).c2 = (if p = 2 then upI c.c2 1 else c.c2) := by
  obtain ⟨k0, _, kv, ha, _⟩ := chkE_zero ok.chk
  have hh := fun (d : CoD) (n : Int) => hadC_rest d n
  have cn : ∀ (d : CoD) (i : Int), (0 ≤ i ∧ i < 3) → ¬ (e.k = 2 ∨ e.k = 4) → d.c0 = c.c0 → d.c1 = c.c1 → d.c2 = c.c2 → ∃ p : Int, (p = 0 ∨ p = 1 ∨ p = 2 ∨ p = 3) ∧ (p = 3 ↔ (e.k = 2 ∨ e.k = 4)) ∧ (cntC d i).c0 = (if p = 0 then upI c.c0 1 else c.c0) ∧ (cntC d i).c1 = (if p = 1 then upI c.c1 1 else c.c1) ∧ (cntC d i).c2 = (if p = 2 then upI c.c2 1 else c.c2) := by
    intro d i hi hk e0 e1 e2
    refine ⟨i, by omega, ⟨fun h => by omega, fun h => absurd h hk⟩, ?_, ?_, ?_⟩
    · show (if i = 0 then upI d.c0 1 else d.c0) = _; rw [e0]
    · show (if i = 1 then upI d.c1 1 else d.c1) = _; rw [e1]
    · show (if i = 2 then upI d.c2 1 else d.c2) = _; rw [e2]
  have no : ∀ d : CoD, (e.k = 2 ∨ e.k = 4) → d.c0 = c.c0 → d.c1 = c.c1 → d.c2 = c.c2 → ∃ p : Int, (p = 0 ∨ p = 1 ∨ p = 2 ∨ p = 3) ∧ (p = 3 ↔ (e.k = 2 ∨ e.k = 4)) ∧ d.c0 = (if p = 0 then upI c.c0 1 else c.c0) ∧ d.c1 = (if p = 1 then upI c.c1 1 else c.c1) ∧ d.c2 = (if p = 2 then upI c.c2 1 else c.c2) :=
    fun d hk e0 e1 e2 => ⟨3, by omega, ⟨fun _ => hk, fun _ => rfl⟩, by simp [e0], by simp [e1], by simp [e2]⟩
  unfold tellC
  split
  · rename_i k2
    split
    · exact no _ (.inl k2) rfl rfl rfl
    · split <;> exact no _ (.inl k2) rfl rfl rfl
  · split
    · rename_i k2 k3
      have hx : 0 ≤ e.x ∧ e.x < 3 := by
        rw [k3] at kv
        simp [lo1, hi1] at kv
        omega
      obtain ⟨e1, e2, e3, e4, e5, e6, e7, e8, e9, e10, e11⟩ := hadC_rest (winC c e) e.y
      exact cn _ _ hx (by omega) e9 e10 e11
    · split
      · rename_i k2 k3 k4
        split <;> exact no _ (.inr k4) rfl rfl rfl
      · rename_i k2 k3 k4
        have nk : ¬ (e.k = 2 ∨ e.k = 4) := by omega
        split
        · exact cn _ 0 (by omega) nk rfl rfl rfl
        · split
          · exact cn _ 1 (by omega) nk rfl rfl rfl
          · split
            · exact cn _ 2 (by omega) nk rfl rfl rfl
            · split
              · exact cn _ 0 (by omega) nk rfl rfl rfl
              · split
                · obtain ⟨e1, e2, e3, e4, e5, e6, e7, e8, e9, e10, e11⟩ := hadC_rest c e.x
                  exact cn _ 1 (by omega) nk e9 e10 e11
                · exact cn _ 2 (by omega) nk rfl rfl rfl

theorem up1 {n : Int} (h : heldP n) : upI n 1 = (if n = 1099511627776 then n else n + 1) := by
  unfold upI holdI heldP at *
  split <;> omega

end Go.Proofs.Ytohmeljljamigaa.Cmp
