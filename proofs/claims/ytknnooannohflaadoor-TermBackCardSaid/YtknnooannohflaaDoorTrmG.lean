/- Layer 22: a filter that is read from its words. -/
import Derived.Test.YtknnooannohflaaDoorTrmF
namespace Go.Proofs.YtknnooannohflaaDoor.Trm
open Go Go.Px Go.Proofs
set_option maxRecDepth 100000
set_option linter.unusedVariables false

/-- A filter with its words ahead is read as it is. -/
def FiC (d : Int) (ws : List Tx) (n : Int) (bad : Bool) (f : FlD) (ws' : List Tx) (n' : Int) (bad' : Bool) : Prop :=
  ∀ (f0 : FlD) rest, bad = false → okA f0 → dep f0 + d ≤ 17 → cnt f0 ≤ n → ws = wds f0 ++ rest → f = f0 ∧ ws' = rest ∧ n' = n - cnt f0 ∧ bad' = false

/-- What filter tells. -/
def FiR (d : Int) (ws : List Tx) (n : Int) (bad : Bool) (r : List SV) : Prop :=
  ∃ f ws' n' bad', r = [FlD.sv f, rdv ws' n' bad'] ∧ NoS ws' ∧ smF f ∧ 0 ≤ n' ∧ n' ≤ n ∧ (bad' = false → n' < n) ∧ (bad = true → bad' = true) ∧ FiC d ws n bad f ws' n' bad'

/-- Behind a filter's own words. -/
structure HdC (d : Int) (ws : List Tx) (n : Int) (many op a b : Int) (nm : ByteArray) (ws' : List Tx) (bad' : Bool) : Prop where
  nos : NoS ws'
  nms : nm.size ≤ 24
  back : ∀ (f0 : FlD) rest, okA f0 → dep f0 + d ≤ 17 → cnt f0 ≤ n → ws = wds f0 ++ rest → op = f0.op ∧ a = f0.a ∧ b = f0.b ∧ nm = f0.nm ∧ bad' = false ∧ ws' = wdsL f0.ks ++ rest ∧ many = f0.ks.length

theorem sv_zero : FlD.sv zeroF = .agg [I 0, I 0, I 0, S (ByteArray.mk (Array.mk [])), SL 5 []] := by
  rw [FlD.sv, row_mk]; rfl
theorem smF_zero : smF zeroF := by
  rw [smF]; exact ⟨by decide, by simp, trivial⟩

theorem tx_ne {a b : Tx} (h : a ≠ b) : seq (bA a) (bA b) = false := by
  rw [seq_d]; simp [h]
theorem tx_eq {w : Tx} {b : Tx} (h : seq (bA w) (bA b) = true) : w = b := by
  rw [seq_d] at h
  exact bA_inj.1 (of_decide_eq_true h)
theorem tx_neq {w : Tx} {b : Tx} (h : seq (bA w) (bA b) = false) : w ≠ b := by
  rw [seq_d] at h
  exact fun e => of_decide_eq_false h (bA_inj.2 e)

/-- The first word of a filter, and what follows. -/
theorem first_word {w : Tx} {ws : List Tx} {f0 : FlD} {rest : List Tx} (hok : okA f0) (e : w :: ws = wds f0 ++ rest) :
    (w = tAll ∧ f0.op = 1 ∧ ws = wdsL f0.ks ++ rest ∧ f0.a = 0 ∧ f0.b = 0 ∧ f0.nm = ⟨#[]⟩ ∧ f0.ks.length = 0) ∨
    (w = tTime ∧ f0.op = 2 ∧ ws = Lib.itoa f0.a :: Lib.itoa f0.b :: (wdsL f0.ks ++ rest) ∧ (0 ≤ f0.a ∧ f0.a ≤ 1099511627776) ∧ (0 ≤ f0.b ∧ f0.b ≤ 1099511627776) ∧ f0.nm = ⟨#[]⟩ ∧ f0.ks.length = 0) ∨
    (w = tSeq ∧ f0.op = 3 ∧ ws = Lib.itoa f0.a :: Lib.itoa f0.b :: (wdsL f0.ks ++ rest) ∧ (0 ≤ f0.a ∧ f0.a ≤ 1099511627776) ∧ (0 ≤ f0.b ∧ f0.b ≤ 1099511627776) ∧ f0.nm = ⟨#[]⟩ ∧ f0.ks.length = 0) ∨
    (w = tComp ∧ f0.op = 4 ∧ ws = Trm.spell f0.nm :: (wdsL f0.ks ++ rest) ∧ f0.a = 0 ∧ f0.b = 0 ∧ f0.nm.size ≤ 24 ∧ f0.ks.length = 0) ∨
    (w = tKind ∧ f0.op = 5 ∧ ws = Lib.itoa f0.a :: (wdsL f0.ks ++ rest) ∧ (0 ≤ f0.a ∧ f0.a ≤ 1099511627776) ∧ f0.b = 0 ∧ f0.nm = ⟨#[]⟩ ∧ f0.ks.length = 0) ∨
    (w = tAnd ∧ f0.op = 6 ∧ ws = Lib.itoa f0.ks.length :: (wdsL f0.ks ++ rest) ∧ f0.a = 0 ∧ f0.b = 0 ∧ f0.nm = ⟨#[]⟩) ∨
    (w = tOr ∧ f0.op = 7 ∧ ws = Lib.itoa f0.ks.length :: (wdsL f0.ks ++ rest) ∧ f0.a = 0 ∧ f0.b = 0 ∧ f0.nm = ⟨#[]⟩) ∨
    (w = tNot ∧ f0.op = 8 ∧ ws = wdsL f0.ks ++ rest ∧ f0.a = 0 ∧ f0.b = 0 ∧ f0.nm = ⟨#[]⟩ ∧ f0.ks.length = 1) := by
  cases f0 with
  | mk op a b nm ks =>
    rw [okA] at hok
    have hk := hok.1
    rw [wds] at e
    simp only [FlD.op, FlD.a, FlD.b, FlD.nm, FlD.ks]
    unfold OkOne at hk
    rcases hk with ⟨rfl, h⟩ | ⟨rfl, h⟩ | ⟨rfl, h⟩ | ⟨rfl, h⟩ | ⟨rfl, h⟩ | ⟨rfl, h⟩ | ⟨rfl, h⟩ | ⟨rfl, h⟩ <;> simp [hdW] at e
    · exact .inl ⟨e.1, rfl, e.2, by omega, by omega, size_0.2 (by omega), by omega⟩
    · exact .inr (.inl ⟨e.1, rfl, e.2, by omega, by omega, size_0.2 (by omega), by omega⟩)
    · exact .inr (.inr (.inl ⟨e.1, rfl, e.2, by omega, by omega, size_0.2 (by omega), by omega⟩))
    · exact .inr (.inr (.inr (.inl ⟨e.1, rfl, e.2, by omega, by omega, by omega, by omega⟩)))
    · exact .inr (.inr (.inr (.inr (.inl ⟨e.1, rfl, e.2, by omega, by omega, size_0.2 (by omega), by omega⟩))))
    · exact .inr (.inr (.inr (.inr (.inr (.inl ⟨e.1, rfl, e.2, by omega, by omega, size_0.2 (by omega)⟩)))))
    · exact .inr (.inr (.inr (.inr (.inr (.inr (.inl ⟨e.1, rfl, e.2, by omega, by omega, size_0.2 (by omega)⟩))))))
    · exact .inr (.inr (.inr (.inr (.inr (.inr (.inr ⟨e.1, rfl, e.2, by omega, by omega, size_0.2 (by omega), by omega⟩))))))

/-- No filter begins so. -/
theorem HdC.none {d n many op a b : Int} {ws ws' : List Tx} {nm : ByteArray} {bad' : Bool} (h : NoS ws') (hn : nm.size ≤ 24) (hno : ∀ (f0 : FlD) rest, okA f0 → ws ≠ wds f0 ++ rest) : HdC d ws n many op a b nm ws' bad' :=
  ⟨h, hn, fun f0 rest hk _ _ e => absurd e (hno f0 rest hk)⟩

theorem e0size : (ByteArray.mk (Array.mk [])).size ≤ 24 := by decide
theorem cnt_ks_le (f : FlD) : f.ks.length + 1 ≤ cnt f := by
  rw [cnt_ks]; have := cntL_len f.ks; omega
theorem okL_ks {f : FlD} (h : okA f) : okL f.ks := by
  cases f; rw [okA] at h; exact h.2

theorem fw_all {ws : List Tx} {f0 : FlD} {rest : List Tx} (hok : okA f0) (e : tAll :: ws = wds f0 ++ rest) : f0.op = 1 ∧ ws = wdsL f0.ks ++ rest ∧ f0.a = 0 ∧ f0.b = 0 ∧ f0.nm = ⟨#[]⟩ ∧ f0.ks.length = 0 := by
  rcases first_word hok e with h | h | h | h | h | h | h | h <;> first | exact h.2 | exact absurd h.1 (by decide)
theorem fw_time {ws : List Tx} {f0 : FlD} {rest : List Tx} (hok : okA f0) (e : tTime :: ws = wds f0 ++ rest) : f0.op = 2 ∧ ws = Lib.itoa f0.a :: Lib.itoa f0.b :: (wdsL f0.ks ++ rest) ∧ (0 ≤ f0.a ∧ f0.a ≤ 1099511627776) ∧ (0 ≤ f0.b ∧ f0.b ≤ 1099511627776) ∧ f0.nm = ⟨#[]⟩ ∧ f0.ks.length = 0 := by
  rcases first_word hok e with h | h | h | h | h | h | h | h <;> first | exact h.2 | exact absurd h.1 (by decide)
theorem fw_seq {ws : List Tx} {f0 : FlD} {rest : List Tx} (hok : okA f0) (e : tSeq :: ws = wds f0 ++ rest) : f0.op = 3 ∧ ws = Lib.itoa f0.a :: Lib.itoa f0.b :: (wdsL f0.ks ++ rest) ∧ (0 ≤ f0.a ∧ f0.a ≤ 1099511627776) ∧ (0 ≤ f0.b ∧ f0.b ≤ 1099511627776) ∧ f0.nm = ⟨#[]⟩ ∧ f0.ks.length = 0 := by
  rcases first_word hok e with h | h | h | h | h | h | h | h <;> first | exact h.2 | exact absurd h.1 (by decide)
theorem fw_comp {ws : List Tx} {f0 : FlD} {rest : List Tx} (hok : okA f0) (e : tComp :: ws = wds f0 ++ rest) : f0.op = 4 ∧ ws = Trm.spell f0.nm :: (wdsL f0.ks ++ rest) ∧ f0.a = 0 ∧ f0.b = 0 ∧ f0.nm.size ≤ 24 ∧ f0.ks.length = 0 := by
  rcases first_word hok e with h | h | h | h | h | h | h | h <;> first | exact h.2 | exact absurd h.1 (by decide)
theorem fw_kind {ws : List Tx} {f0 : FlD} {rest : List Tx} (hok : okA f0) (e : tKind :: ws = wds f0 ++ rest) : f0.op = 5 ∧ ws = Lib.itoa f0.a :: (wdsL f0.ks ++ rest) ∧ (0 ≤ f0.a ∧ f0.a ≤ 1099511627776) ∧ f0.b = 0 ∧ f0.nm = ⟨#[]⟩ ∧ f0.ks.length = 0 := by
  rcases first_word hok e with h | h | h | h | h | h | h | h <;> first | exact h.2 | exact absurd h.1 (by decide)
theorem fw_and {ws : List Tx} {f0 : FlD} {rest : List Tx} (hok : okA f0) (e : tAnd :: ws = wds f0 ++ rest) : f0.op = 6 ∧ ws = Lib.itoa f0.ks.length :: (wdsL f0.ks ++ rest) ∧ f0.a = 0 ∧ f0.b = 0 ∧ f0.nm = ⟨#[]⟩ := by
  rcases first_word hok e with h | h | h | h | h | h | h | h <;> first | exact h.2 | exact absurd h.1 (by decide)
theorem fw_or {ws : List Tx} {f0 : FlD} {rest : List Tx} (hok : okA f0) (e : tOr :: ws = wds f0 ++ rest) : f0.op = 7 ∧ ws = Lib.itoa f0.ks.length :: (wdsL f0.ks ++ rest) ∧ f0.a = 0 ∧ f0.b = 0 ∧ f0.nm = ⟨#[]⟩ := by
  rcases first_word hok e with h | h | h | h | h | h | h | h <;> first | exact h.2 | exact absurd h.1 (by decide)
theorem fw_not {ws : List Tx} {f0 : FlD} {rest : List Tx} (hok : okA f0) (e : tNot :: ws = wds f0 ++ rest) : f0.op = 8 ∧ ws = wdsL f0.ks ++ rest ∧ f0.a = 0 ∧ f0.b = 0 ∧ f0.nm = ⟨#[]⟩ ∧ f0.ks.length = 1 := by
  rcases first_word hok e with h | h | h | h | h | h | h | h <;> first | exact h.2 | exact absurd h.1 (by decide)

set_option maxHeartbeats 1000000 in
theorem filter_step (d : Int) (hd1 : 1 ≤ d) (hd : d ≤ 16) (ih : ∀ (ws : List Tx) (n : Int) (bad : Bool), NoS ws → 0 ≤ n → n ≤ 64 → Ct Tryd.prog 43 ⟨[.lend []], []⟩ [rdv ws n bad, I (d + 1)] (FiR (d + 1) ws n bad))
    (ws : List Tx) (n : Int) (bad : Bool) (hno : NoS ws) (hn0 : 0 ≤ n) (hn : n ≤ 64) : Ct Tryd.prog 43 ⟨[.lend []], []⟩ [rdv ws n bad, I d] (FiR d ws n bad) := by
  refine tfilter_nf _ _ _ _ _ _ (ifB_intro (fun h => ?_) (fun h => ifB_intro (fun hb => ?_) (fun hb => ?_)))
  · simp at h
    have hn' : n = 0 := by omega
    refine ⟨zeroF, ws, n, true, by rw [sv_zero], hno, smF_zero, hn0, by omega, fun e => by simp at e, fun _ => rfl, fun f0 rest _ _ _ hc _ => ?_⟩
    have := cnt_pos f0
    omega
  · subst hb
    exact ⟨zeroF, ws, n, true, by rw [sv_zero], hno, smF_zero, hn0, by omega, fun e => by simp at e, fun _ => rfl, fun f0 rest e => by simp at e⟩
  subst hb
  simp at h
  have hn1 : 1 ≤ n := by omega
  rw [wsub_i64 (by omega) (by omega)]
  refine Cl.ofQ (word_fn hno (n - 1) false) ?_
  rintro r rfl
  obtain ⟨w, ws1, bad1, e, hno1, hw⟩ : ∃ (w : Tx) (ws1 : List Tx) (bad1 : Bool), (match ws with | [] => [S (bA []), rdv [] (n - 1) true] | w :: ws => [S (bA w), rdv ws (n - 1) false]) = [S (bA w), rdv ws1 (n - 1) bad1] ∧ NoS ws1 ∧
      (∀ (f0 : FlD) rest, okA f0 → ws = wds f0 ++ rest → w :: ws1 = wds f0 ++ rest ∧ bad1 = false) := by
    cases ws with
    | nil => exact ⟨[], [], true, rfl, hno, fun f0 rest _ e => absurd (List.append_eq_nil_iff.1 e.symm).1 (wds_ne f0)⟩
    | cons w ws => exact ⟨w, ws, false, rfl, hno.tail, fun f0 rest _ e => ⟨e, rfl⟩⟩
  refine ⟨_, _, _, _, _, e, fun many op a b nm rows left more n1 bad' => rows = [] ∧ n1 = n - 1 ∧ ∃ ws', left = bA (jn ws') ∧ more = mor ws' ∧ HdC d ws n many op a b nm ws' bad', fun _ _ _ _ _ _ _ _ _ _ => 0, ?_, ?_⟩
  · refine ifB_intro (fun h1 => ⟨rfl, ?_⟩) (fun h1 => ifB_intro (fun h2 => ?_) (fun h2 => ifB_intro (fun h3 => ?_) (fun h3 => ifB_intro (fun h4 => ?_) (fun h4 => ifB_intro (fun h5 => ?_) (fun h5 => ifB_intro (fun h6 => ?_) (fun h6 => ifB_intro (fun h7 => ?_) (fun h7 => ifB_intro (fun h8 => ⟨rfl, ?_⟩) (fun h8 => ⟨rfl, ?_⟩))))))))
    · obtain rfl : w = tAll := tx_eq (b := tAll) h1
      refine ⟨rfl, rfl, ws1, rfl, rfl, hno1, e0size, fun f0 rest hk _ _ e => ?_⟩
      obtain ⟨e1, hb⟩ := hw f0 rest hk e
      obtain ⟨q1, q2, q3, q4, q5, q6⟩ := fw_all hk e1
      exact ⟨q1.symm, q3.symm, q4.symm, q5.symm, hb, q2, by omega⟩
    · obtain rfl : w = tTime := tx_eq (b := tTime) h2
      refine Cl.ofQ (number_fn hno1 (n - 1) bad1) ?_
      rintro r ⟨v, ws2, bad2, rfl, hno2, _, hk2⟩
      refine ⟨_, _, _, _, _, rfl, Cl.ofQ (number_fn hno2 (n - 1) bad2) ?_⟩
      rintro r ⟨u, ws3, bad3, rfl, hno3, _, hk3⟩
      refine ⟨_, _, _, _, _, rfl, rfl, rfl, rfl, ws3, rfl, rfl, hno3, e0size, fun f0 rest hk _ _ e => ?_⟩
      obtain ⟨e1, hb⟩ := hw f0 rest hk e
      obtain ⟨q1, q2, q3, q4, q5, q6⟩ := fw_time hk e1
      obtain ⟨g1, g2, g3⟩ := hk2 _ _ q3.1 q3.2 q2
      obtain ⟨k1, k2, k3⟩ := hk3 _ _ q4.1 q4.2 g2
      exact ⟨q1.symm, g1, k1, q5.symm, by rw [k3, g3, hb], k2, by omega⟩
    · obtain rfl : w = tSeq := tx_eq (b := tSeq) h3
      refine Cl.ofQ (number_fn hno1 (n - 1) bad1) ?_
      rintro r ⟨v, ws2, bad2, rfl, hno2, _, hk2⟩
      refine ⟨_, _, _, _, _, rfl, Cl.ofQ (number_fn hno2 (n - 1) bad2) ?_⟩
      rintro r ⟨u, ws3, bad3, rfl, hno3, _, hk3⟩
      refine ⟨_, _, _, _, _, rfl, rfl, rfl, rfl, ws3, rfl, rfl, hno3, e0size, fun f0 rest hk _ _ e => ?_⟩
      obtain ⟨e1, hb⟩ := hw f0 rest hk e
      obtain ⟨q1, q2, q3, q4, q5, q6⟩ := fw_seq hk e1
      obtain ⟨g1, g2, g3⟩ := hk2 _ _ q3.1 q3.2 q2
      obtain ⟨k1, k2, k3⟩ := hk3 _ _ q4.1 q4.2 g2
      exact ⟨q1.symm, g1, k1, q5.symm, by rw [k3, g3, hb], k2, by omega⟩
    · obtain rfl : w = tComp := tx_eq (b := tComp) h4
      refine Cl.ofQ (name_fn hno1 (n - 1) bad1) ?_
      rintro r ⟨s2, ws2, bad2, rfl, hno2, hsz, _, hk2⟩
      refine ⟨_, _, _, _, _, rfl, rfl, rfl, rfl, ws2, rfl, rfl, hno2, hsz, fun f0 rest hk _ _ e => ?_⟩
      obtain ⟨e1, hb⟩ := hw f0 rest hk e
      obtain ⟨q1, q2, q3, q4, q5, q6⟩ := fw_comp hk e1
      obtain ⟨g1, g2, g3⟩ := hk2 _ _ q5 q2
      exact ⟨q1.symm, q3.symm, q4.symm, g1, by rw [g3, hb], g2, by omega⟩
    · obtain rfl : w = tKind := tx_eq (b := tKind) h5
      refine Cl.ofQ (number_fn hno1 (n - 1) bad1) ?_
      rintro r ⟨v, ws2, bad2, rfl, hno2, _, hk2⟩
      refine ⟨_, _, _, _, _, rfl, rfl, rfl, rfl, ws2, rfl, rfl, hno2, e0size, fun f0 rest hk _ _ e => ?_⟩
      obtain ⟨e1, hb⟩ := hw f0 rest hk e
      obtain ⟨q1, q2, q3, q4, q5, q6⟩ := fw_kind hk e1
      obtain ⟨g1, g2, g3⟩ := hk2 _ _ q3.1 q3.2 q2
      exact ⟨q1.symm, g1, q4.symm, q5.symm, by rw [g3, hb], g2, by omega⟩
    · obtain rfl : w = tAnd := tx_eq (b := tAnd) h6
      refine Cl.ofQ (number_fn hno1 (n - 1) bad1) ?_
      rintro r ⟨v, ws2, bad2, rfl, hno2, _, hk2⟩
      refine ⟨_, _, _, _, _, rfl, rfl, rfl, rfl, ws2, rfl, rfl, hno2, e0size, fun f0 rest hk _ hc e => ?_⟩
      obtain ⟨e1, hb⟩ := hw f0 rest hk e
      obtain ⟨q1, q2, q3, q4, q5⟩ := fw_and hk e1
      have := cnt_ks_le f0
      obtain ⟨g1, g2, g3⟩ := hk2 _ _ (by omega) (by omega) q2
      exact ⟨q1.symm, q3.symm, q4.symm, q5.symm, by rw [g3, hb], g2, g1⟩
    · obtain rfl : w = tOr := tx_eq (b := tOr) h7
      refine Cl.ofQ (number_fn hno1 (n - 1) bad1) ?_
      rintro r ⟨v, ws2, bad2, rfl, hno2, _, hk2⟩
      refine ⟨_, _, _, _, _, rfl, rfl, rfl, rfl, ws2, rfl, rfl, hno2, e0size, fun f0 rest hk _ hc e => ?_⟩
      obtain ⟨e1, hb⟩ := hw f0 rest hk e
      obtain ⟨q1, q2, q3, q4, q5⟩ := fw_or hk e1
      have := cnt_ks_le f0
      obtain ⟨g1, g2, g3⟩ := hk2 _ _ (by omega) (by omega) q2
      exact ⟨q1.symm, q3.symm, q4.symm, q5.symm, by rw [g3, hb], g2, g1⟩
    · obtain rfl : w = tNot := tx_eq (b := tNot) h8
      refine ⟨rfl, rfl, ws1, rfl, rfl, hno1, e0size, fun f0 rest hk _ _ e => ?_⟩
      obtain ⟨e1, hb⟩ := hw f0 rest hk e
      obtain ⟨q1, q2, q3, q4, q5, q6⟩ := fw_not hk e1
      exact ⟨q1.symm, q3.symm, q4.symm, q5.symm, hb, q2, by omega⟩
    · refine ⟨rfl, rfl, ws1, rfl, rfl, HdC.none hno1 e0size fun f0 rest hk e => ?_⟩
      obtain ⟨e1, _⟩ := hw f0 rest hk e
      rcases first_word hk e1 with q | q | q | q | q | q | q | q
      · exact tx_neq (b := tAll) h1 q.1
      · exact tx_neq (b := tTime) h2 q.1
      · exact tx_neq (b := tSeq) h3 q.1
      · exact tx_neq (b := tComp) h4 q.1
      · exact tx_neq (b := tKind) h5 q.1
      · exact tx_neq (b := tAnd) h6 q.1
      · exact tx_neq (b := tOr) h7 q.1
      · exact tx_neq (b := tNot) h8 q.1
  · rintro many op a b nm rows left more n1 bad' ⟨rfl, rfl, ws2, rfl, rfl, hH⟩
    refine ⟨fun i op' a' b' nm' rows left more n1 bad3 => op' = op ∧ a' = a ∧ b' = b ∧ nm' = nm ∧ ∃ (ks : List FlD) (ws3 : List Tx), rows = ks.map FlD.row ∧ left = bA (jn ws3) ∧ more = mor ws3 ∧ smL ks ∧ i = ks.length ∧ 0 ≤ n1 ∧ n1 < n ∧ (bad3 = false → n1 + i < n) ∧ i ≤ 64 ∧ NoS ws3 ∧
        ∀ (f0 : FlD) rest, okA f0 → dep f0 + d ≤ 17 → cnt f0 ≤ n → ws = wds f0 ++ rest → (ks.length ≤ f0.ks.length ∧ ks = f0.ks.take ks.length ∧ bad3 = false ∧ ws3 = wdsL (f0.ks.drop ks.length) ++ rest ∧ n1 = n - 1 - cntL (f0.ks.take ks.length)),
      fun i _ _ _ _ _ _ _ _ _ => (many - i).toNat, ⟨rfl, rfl, rfl, rfl, [], ws2, rfl, rfl, rfl, trivial, rfl, by omega, by omega, fun _ => by simp; omega, by omega, hH.nos, fun f0 rest hk hdp hc e => ?_⟩, ?_⟩
    · obtain ⟨q1, q2, q3, q4, q5, q6, q7⟩ := hH.back f0 rest hk hdp hc e
      exact ⟨by simp, by simp, q5, by simpa using q6, by simp [cntL]⟩
    · rintro i op' a' b' nm' _ _ _ n1 bad3 ⟨rfl, rfl, rfl, rfl, ks, ws3, rfl, rfl, rfl, hsm, rfl, hn10, hn11, hn12, hi64, hno3, hback⟩
      refine ifB_intro (fun hc => ?_) (fun hc => ?_)
      · simp at hc
        obtain ⟨hlt, rfl⟩ := hc
        have hn13 := hn12 rfl
        rw [wadd_i64 (by omega) (by omega)]
        refine Cl.ofQ (ih ws3 n1 false hno3 hn10 (by omega)) ?_
        rintro r ⟨f, ws4, n4, bad4, rfl, hno4, hsmf, hn40, hn41, hn42, _, hC⟩
        cases f with
        | mk fo fa fb fn fks =>
          refine ⟨_, _, _, _, _, _, _, _, _, by rw [mk_sv], by simp; omega, rfl, ⟨rfl, rfl, rfl, rfl, ks ++ [.mk fo fa fb fn fks], ws4, ?_, rfl, rfl, smL_of fun x hx => ?_, ?_, hn40, by omega, fun hb => ?_, ?_, hno4, fun f0 rest hk hdp hc e => ?_⟩, stepL ?_⟩
          · rw [List.map_append]; simp [rapp, row_mk]
          · rcases List.mem_append.1 hx with hx | hx
            · exact smL_mem hsm hx
            · simp at hx; subst hx; exact hsmf
          · rw [wadd_i64 (by omega) (by omega)]; simp
          · have := hn42 hb
            rw [wadd_i64 (by omega) (by omega)]; omega
          · rw [wadd_i64 (by omega) (by omega)]; omega
          · obtain ⟨q1, q2, _, q4, q5⟩ := hback f0 rest hk hdp hc e
            obtain ⟨r1, r2, r3, r4, r5, r6, r7⟩ := hH.back f0 rest hk hdp hc e
            have hlt' : ks.length < f0.ks.length := by omega
            have hdr : f0.ks.drop ks.length = f0.ks[ks.length] :: f0.ks.drop (ks.length + 1) := List.drop_eq_getElem_cons hlt'
            rw [hdr, wdsL, List.append_assoc] at q4
            have hm := List.getElem_mem hlt'
            have hdm := depL_mem hm
            have hcs := cntL_snoc f0.ks ks.length hlt'
            have hcl := cntL_take_le f0.ks (ks.length + 1)
            rw [dep_ks] at hdp
            rw [cnt_ks] at hc
            obtain ⟨s1, s2, s3, s4⟩ := hC f0.ks[ks.length] _ rfl ((okL_iff _).1 (okL_ks hk) _ hm) (by omega) (by omega) q4
            rw [List.length_append, List.length_singleton]
            refine ⟨by omega, ?_, s4, s2, by omega⟩
            rw [List.take_add_one, List.getElem?_eq_getElem hlt', ← q2, s1]
            rfl
          · rw [wadd_i64 (by omega) (by omega)]
            show (many - (ks.length + 1)).toNat < (many - ks.length).toNat
            omega
      · refine ⟨.mk op' a' b' nm' ks, ws3, n1, bad3, by rw [mk_sv], hno3, ?_, hn10, by omega, fun hb => by omega, fun e => by simp at e, fun f0 rest _ hk hdp hcn e => ?_⟩
        · rw [smF]
          have := hH.nms
          exact ⟨by omega, by omega, hsm⟩
        · obtain ⟨q1, q2, rfl, q4, q5⟩ := hback f0 rest hk hdp hcn e
          obtain ⟨r1, r2, r3, r4, r5, r6, r7⟩ := hH.back f0 rest hk hdp hcn e
          simp at hc
          have hl : ks.length = f0.ks.length := by omega
          rw [hl, List.take_length] at q2 q5
          rw [hl, List.drop_length] at q4
          refine ⟨?_, by simpa [wdsL] using q4, by rw [cnt_ks]; omega, rfl⟩
          cases f0
          simp only [FlD.op, FlD.a, FlD.b, FlD.nm, FlD.ks] at r1 r2 r3 r4 q2
          rw [r1, r2, r3, r4, q2]

theorem filter_fn : ∀ (k : Nat) (d : Int), d = 17 - k → 1 ≤ d → ∀ (ws : List Tx) (n : Int) (bad : Bool), NoS ws → 0 ≤ n → n ≤ 64 → Ct Tryd.prog 43 ⟨[.lend []], []⟩ [rdv ws n bad, I d] (FiR d ws n bad)
  | 0, d, hd, hd1, ws, n, bad, hno, hn0, hn => by
    refine tfilter_nf _ _ _ _ _ _ (ifB_intro (fun h => ?_) (fun h => ?_))
    · refine ⟨zeroF, ws, n, true, by rw [sv_zero], hno, smF_zero, hn0, by omega, fun e => by simp at e, fun _ => rfl, fun f0 rest _ _ hdp hc _ => ?_⟩
      have := dep_pos f0
      omega
    · simp at h
      omega
  | k + 1, d, hd, hd1, ws, n, bad, hno, hn0, hn => filter_step d hd1 (by omega) (fun ws n bad h1 h2 h3 => filter_fn k (d + 1) (by omega) (by omega) ws n bad h1 h2 h3) ws n bad hno hn0 hn
end Go.Proofs.YtknnooannohflaaDoor.Trm
