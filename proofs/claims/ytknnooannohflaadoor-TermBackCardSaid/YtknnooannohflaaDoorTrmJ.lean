/- Layer 22: the reference's filter of words. -/
import Derived.Test.YtknnooannohflaaDoorTrmI
namespace Go.Proofs.YtknnooannohflaaDoor.Trm
open Go Go.Px Go.Proofs
set_option maxRecDepth 100000
set_option linter.unusedVariables false

theorem nDigits_le : ∀ (k u : Nat), u < 10 ^ (k + 1) → Lib.nDigits u ≤ k + 1
  | 0, u, h => by rw [Lib.nDigits_small (by simpa using h)]; omega
  | k + 1, u, h => by
    by_cases hu : u < 10
    · rw [Lib.nDigits_small hu]; omega
    · rw [Lib.nDigits_big hu]
      have := nDigits_le k (u / 10) (by rw [Nat.pow_succ] at h; omega)
      omega

theorem vDec_ltr : ∀ (r : Tx), (∀ c ∈ r, 48 ≤ c.toNat ∧ c.toNat ≤ 57) → vDec r.reverse < 10 ^ r.length
  | [], _ => by simp [vDec]
  | c :: r, h => by
    have h1 := vDec_ltr r fun x hx => h x (by simp [hx])
    have h2 := h c (by simp)
    rw [List.reverse_cons, vDec_snoc, List.length_cons, Nat.pow_succ]
    omega
theorem vDec_lt (l : Tx) (h : ∀ c ∈ l, 48 ≤ c.toNat ∧ c.toNat ≤ 57) : vDec l < 10 ^ l.length := by
  have := vDec_ltr l.reverse fun c hc => h c (by simpa using hc)
  simpa using this

theorem numw_fn (w : Tx) : Ct Tryd.prog 101 {} [S (bA w)] (fun r => ∃ v, r = [I v] ∧ ∀ x : Int, 0 ≤ x → x ≤ 1099511627776 → w = Lib.itoa x → v = x) := by
  have facts : ∀ x : Int, 0 ≤ x → x ≤ 1099511627776 → w = Lib.itoa x → w ≠ [] ∧ w.length ≤ 13 ∧ (∀ c ∈ w, 48 ≤ c.toNat ∧ c.toNat ≤ 57) ∧ vDec w = x.toNat := fun x h0 h1 e => by
    rw [e, itoa_pos h0]
    refine ⟨dec_ne _, ?_, dec_dig _, vDec_dec _⟩
    rw [Lib.decDigits_length]
    exact nDigits_le 12 _ (by omega)
  refine rnumw_nf _ _ ?_
  rw [slen_bA]
  refine ifB_intro (fun h => ⟨-1, rfl, fun x h0 h1 e => ?_⟩) (fun h => ?_)
  · obtain ⟨f1, f2, _⟩ := facts x h0 h1 e
    simp at h
    rcases h with h | h
    · exact absurd h f1
    · omega
  simp at h
  refine ⟨fun _ v i => ∃ k : Nat, i = k ∧ k ≤ w.length ∧ ∀ x : Int, 0 ≤ x → x ≤ 1099511627776 → w = Lib.itoa x → v = vDec (w.take k), fun _ _ i => w.length - i.toNat, ⟨0, rfl, by omega, fun _ _ _ _ => rfl⟩, ?_⟩
  rintro _ v _ ⟨k, rfl, hk, hv⟩
  refine ifB_intro (fun hlt => ?_) (fun hge => ⟨v, rfl, fun x h0 h1 e => ?_⟩)
  · simp at hlt
    rw [sbyte_bA (i := (k : Int)) (c := w[k]) (by omega) (by simp)]
    have hm := List.getElem_mem hlt
    refine ⟨by omega, ifB_intro (fun hc => ⟨-1, rfl, fun x h0 h1 e => ?_⟩) (fun hc => ⟨by omega, ifB_intro (fun hc2 => ⟨-1, rfl, fun x h0 h1 e => ?_⟩) (fun hc2 => ⟨by omega, rfl, ?_⟩)⟩)⟩
    · obtain ⟨_, _, f3, _⟩ := facts x h0 h1 e
      have := f3 _ hm
      simp at hc
      omega
    · obtain ⟨_, _, f3, _⟩ := facts x h0 h1 e
      have := f3 _ hm
      simp at hc2
      omega
    · rw [waddN k (by omega)]
      refine ⟨⟨k + 1, rfl, by omega, fun x h0 h1 e => ?_⟩, stepL (by simp; omega)⟩
      obtain ⟨_, f2, f3, _⟩ := facts x h0 h1 e
      have hd := f3 _ hm
      have hlt2 := vDec_lt (w.take k) (fun c hc => f3 c (List.mem_of_mem_take hc))
      have hp : (10 : Nat) ^ (w.take k).length ≤ 10 ^ 13 := Nat.pow_le_pow_right (by omega) (by rw [List.length_take]; omega)
      have hp13 : (10 : Nat) ^ 13 = 10000000000000 := by decide
      rw [hv x h0 h1 e, List.take_add_one, List.getElem?_eq_getElem hlt, Option.toList_some, vDec_snoc]
      rw [wsub8 (by omega) (by omega)]
      have e1 : wmul .i64 10 (vDec (w.take k) : Int) = 10 * (vDec (w.take k) : Int) := wrap_i64 (by omega) (by omega)
      have e2 : wcv .i64 ((w[k].toNat : Int) - 48) = (w[k].toNat : Int) - 48 := wrap_i64 (by omega) (by omega)
      rw [e1, e2, wadd_i64 (by omega) (by omega)]
      omega
  · simp at hge
    have : k = w.length := by omega
    subst this
    obtain ⟨_, _, _, f4⟩ := facts x h0 h1 e
    rw [hv x h0 h1 e, List.take_length, f4]
    omega

theorem value_fn (c : UInt8) : Ct Tryd.prog 100 {} [U8 (c.toNat : Int)] (fun r => ∃ v : Int, r = [U8 v] ∧ 0 ≤ v ∧ v ≤ 16 ∧ ∀ n : Nat, n < 16 → c = hd1 n → v = n) := by
  have h256 := UInt8.toNat_lt c
  have hh : ∀ n : Nat, n < 16 → c = hd1 n → (c.toNat : Int) = if n < 10 then 48 + n else 87 + n := fun n hn e => by
    rw [e, hd1_toNat hn]
  refine rvalue_nf _ _ (ifB_intro (fun h => ?_) (fun h => ifB_intro (fun h2 => ?_) (fun h2 => ?_)))
  · simp at h
    rw [wsub8 (by omega) (by omega)]
    refine ⟨_, rfl, by omega, by omega, fun n hn e => ?_⟩
    have := hh n hn e
    split at this <;> omega
  · simp at h h2
    rw [wsub8 (by omega) (by omega), wadd8 (by omega) (by omega)]
    refine ⟨_, rfl, by omega, by omega, fun n hn e => ?_⟩
    have := hh n hn e
    split at this <;> omega
  · simp at h h2
    refine ⟨16, rfl, by omega, by omega, fun n hn e => ?_⟩
    have := hh n hn e
    split at this <;> omega

def needOf (op : Int) : Int := if op = 2 ∨ op = 3 then 2 else if op = 1 ∨ op = 8 then 0 else 1
theorem need_le (op : Int) : 0 ≤ needOf op ∧ needOf op ≤ 2 := by
  unfold needOf
  split
  · omega
  · split <;> omega
def kidOf (op : Int) : Int := if op = 8 then 1 else 0
/-- A filter's words behind the first. -/
def argW (f : FlD) : List Tx := (hdW f.op f.a f.b f.nm f.ks.length).tail
def awOf (f : FlD) : Int := if f.op = 6 ∨ f.op = 7 then f.ks.length else f.a

theorem wds_arg (f : FlD) : (wds f).tail = argW f ++ wdsL f.ks := by
  cases f with
  | mk op a b nm ks =>
    rw [wds, argW]
    simp only [FlD.op, FlD.a, FlD.b, FlD.nm, FlD.ks]
    have := hdW_ne op a b nm ks.length
    cases h : hdW op a b nm ks.length with
    | nil => exact absurd h this
    | cons x xs => simp
theorem ok_one : ∀ {f : FlD}, okA f → OkOne f.op f.a f.b f.nm.size f.ks.length
  | .mk _ _ _ _ _, h => by rw [okA] at h; exact h.1
theorem argW_len {f : FlD} (h : okA f) : ((argW f).length : Int) = needOf f.op := by
  have := ok_one h
  unfold OkOne at this
  unfold argW
  rcases this with ⟨e, _⟩ | ⟨e, _⟩ | ⟨e, _⟩ | ⟨e, _⟩ | ⟨e, _⟩ | ⟨e, _⟩ | ⟨e, _⟩ | ⟨e, _⟩ <;> rw [e] <;> simp [hdW, needOf]

/-- What the reference's parse tells. -/
def RpH (deep : Nat) (left : Int) (w : List Tx) (f0 : FlD) (rest : List Tx) : Prop := okA f0 ∧ dep f0 ≤ deep ∧ cnt f0 ≤ left ∧ w = wds f0 ++ rest
def RpR (deep : Nat) (left : Int) (w : List Tx) (r : List SV) : Prop :=
  ∃ op a b nm ks ws' ok n', r = [.agg [I op, I a, I b, S nm, SL 5 (ks.map FlD.row), SL 1 (nR ws'), B ok, I n']] ∧ smL ks ∧ nm.size ≤ 100000 ∧ ks.length ≤ 64 ∧ (∀ x ∈ ws', x.length ≤ 100000) ∧ ws'.length ≤ 200000 ∧ (ok = true → 0 ≤ n' ∧ n' < left) ∧
    ∀ f0 rest, RpH deep left w f0 rest → f0 = .mk op a b nm ks ∧ ws' = rest ∧ ok = true ∧ n' = left - cnt f0

theorem RpR.none {deep : Nat} {left : Int} {w : List Tx} (h : ∀ f0 rest, ¬ RpH deep left w f0 rest) : RpR deep left w [SV.agg ([I ((0 : Int)), I ((0 : Int)), I ((0 : Int)), S (ByteArray.mk (Array.mk [])), SL 5 [], SL 1 [], B false, I ((0 : Int))])] :=
  ⟨0, 0, 0, _, [], [], false, 0, rfl, trivial, by decide, by simp, fun x hx => by simp at hx, by simp, fun h => by simp at h, fun f0 rest k => absurd k (h f0 rest)⟩

theorem rget_nR (ws : List Tx) (i : Nat) (h : i < ws.length) : rget (nR ws) (i : Int) = [S (bA ws[i])] := by simp [rget, h]
theorem rsub_nR (ws : List Tx) (i : Nat) : rsub (nR ws) (i : Int) (rlen (nR ws)) = nR (ws.drop i) := by
  simp only [rsub, rlen_eq, Int.toNat_natCast]
  rw [List.take_length]
  exact (List.map_drop ..).symm

set_option maxHeartbeats 2000000 in
theorem rparse_step (deep : Nat) (ih : ∀ (w : List Tx) (left : Int), (∀ x ∈ w, x.length ≤ 100000) → w.length ≤ 200000 → 0 ≤ left → left ≤ 64 → Ct Tryd.prog 44 {} [SL 1 (nR w), I deep, I left] (RpR deep left w))
    (hdeep : deep ≤ 100) (w : List Tx) (left : Int) (hw : ∀ x ∈ w, x.length ≤ 100000) (hwl : w.length ≤ 200000) (hl0 : 0 ≤ left) (hl : left ≤ 64) : Ct Tryd.prog 44 {} [SL 1 (nR w), I ((deep + 1 : Nat) : Int), I left] (RpR (deep + 1) left w) := by
  refine rparse_nf _ _ _ _ (ifB_intro (fun h => ?_) (fun h => ?_))
  · refine RpR.none fun f0 rest k => ?_
    obtain ⟨k1, k2, k3, k4⟩ := k
    simp at h
    have := cnt_pos f0
    rcases h with (h | h) | h
    · rw [h] at k4
      exact wds_ne f0 (List.append_eq_nil_iff.1 k4.symm).1
    · omega
    · omega
  simp at h
  obtain ⟨⟨hwne, _⟩, hlne⟩ := h
  obtain ⟨w0, ws1, rfl⟩ : ∃ x xs, w = x :: xs := by
    cases w with
    | nil => exact absurd rfl hwne
    | cons x xs => exact ⟨x, xs, rfl⟩
  have e1 : rsub (nR (w0 :: ws1)) 1 (rlen (nR (w0 :: ws1))) = nR ws1 := rsub_nR (w0 :: ws1) 1
  have e2 : rlen (nR (w0 :: ws1)) = ws1.length + 1 := by simp
  have hw1 : ∀ x ∈ ws1, x.length ≤ 100000 := fun x hx => hw x (by simp [hx])
  have hwl1 : ws1.length ≤ 200000 := by simp at hwl; omega
  rw [e1, e2, wsub_i64 (by omega) (by omega)]
  -- what holds of a filter that begins the words
  have hC : ∀ f0 rest, RpH (deep + 1) left (w0 :: ws1) f0 rest → ws1 = argW f0 ++ (wdsL f0.ks ++ rest) := fun f0 rest k => by
    have := congrArg List.tail k.2.2.2
    rw [List.tail_cons, List.tail_append_of_ne_nil (wds_ne f0), wds_arg, List.append_assoc] at this
    exact this
  refine ⟨by omega, by omega, _, rfl, fun kids need op a b nm l l1 ok n => l = [] ∧ ok = true ∧ n = left - 1 ∧ a = 0 ∧ b = 0 ∧ nm = bA [] ∧ l1 = nR ws1 ∧ (1 ≤ op ∧ op ≤ 8) ∧ need = needOf op ∧ kids = kidOf op ∧ ∀ f0 rest, RpH (deep + 1) left (w0 :: ws1) f0 rest → f0.op = op, fun _ _ _ _ _ _ _ _ _ _ => 0, ?_, ?_⟩
  · have fw := fun (f0 : FlD) rest (k : RpH (deep + 1) left (w0 :: ws1) f0 rest) => first_word k.1 k.2.2.2
    refine ifB_intro (fun h1 => ⟨rfl, rfl, rfl, rfl, rfl, rfl, rfl, rfl, by omega, by simp [needOf], by simp [kidOf], fun f0 rest k => ?_⟩) (fun h1 => ifB_intro (fun h2 => ⟨rfl, rfl, rfl, rfl, rfl, rfl, rfl, rfl, by omega, by simp [needOf], by simp [kidOf], fun f0 rest k => ?_⟩) (fun h2 =>
      ifB_intro (fun h3 => ⟨rfl, rfl, rfl, rfl, rfl, rfl, rfl, rfl, by omega, by simp [needOf], by simp [kidOf], fun f0 rest k => ?_⟩) (fun h3 => ifB_intro (fun h4 => ⟨rfl, rfl, rfl, rfl, rfl, rfl, rfl, rfl, by omega, by simp [needOf], by simp [kidOf], fun f0 rest k => ?_⟩) (fun h4 =>
      ifB_intro (fun h5 => ⟨rfl, rfl, rfl, rfl, rfl, rfl, rfl, rfl, by omega, by simp [needOf], by simp [kidOf], fun f0 rest k => ?_⟩) (fun h5 => ifB_intro (fun h6 => ⟨rfl, rfl, rfl, rfl, rfl, rfl, rfl, rfl, by omega, by simp [needOf], by simp [kidOf], fun f0 rest k => ?_⟩) (fun h6 =>
      ifB_intro (fun h7 => ⟨rfl, rfl, rfl, rfl, rfl, rfl, rfl, rfl, by omega, by simp [needOf], by simp [kidOf], fun f0 rest k => ?_⟩) (fun h7 => ifB_intro (fun h8 => ⟨rfl, rfl, rfl, rfl, rfl, rfl, rfl, rfl, by omega, by simp [needOf], by simp [kidOf], fun f0 rest k => ?_⟩) (fun h8 => RpR.none fun f0 rest k => ?_))))))))
    · obtain rfl : w0 = tAll := tx_eq (b := tAll) h1
      exact (fw_all k.1 k.2.2.2).1
    · obtain rfl : w0 = tTime := tx_eq (b := tTime) h2
      exact (fw_time k.1 k.2.2.2).1
    · obtain rfl : w0 = tSeq := tx_eq (b := tSeq) h3
      exact (fw_seq k.1 k.2.2.2).1
    · obtain rfl : w0 = tComp := tx_eq (b := tComp) h4
      exact (fw_comp k.1 k.2.2.2).1
    · obtain rfl : w0 = tKind := tx_eq (b := tKind) h5
      exact (fw_kind k.1 k.2.2.2).1
    · obtain rfl : w0 = tAnd := tx_eq (b := tAnd) h6
      exact (fw_and k.1 k.2.2.2).1
    · obtain rfl : w0 = tOr := tx_eq (b := tOr) h7
      exact (fw_or k.1 k.2.2.2).1
    · obtain rfl : w0 = tNot := tx_eq (b := tNot) h8
      exact (fw_not k.1 k.2.2.2).1
    · rcases fw f0 rest k with q | q | q | q | q | q | q | q
      · exact tx_neq (b := tAll) h1 q.1
      · exact tx_neq (b := tTime) h2 q.1
      · exact tx_neq (b := tSeq) h3 q.1
      · exact tx_neq (b := tComp) h4 q.1
      · exact tx_neq (b := tKind) h5 q.1
      · exact tx_neq (b := tAnd) h6 q.1
      · exact tx_neq (b := tOr) h7 q.1
      · exact tx_neq (b := tNot) h8 q.1
  rintro kids need op a b nm _ _ ok n ⟨rfl, rfl, rfl, rfl, rfl, rfl, rfl, hop, hneed, rfl, hfop⟩
  have hn0 : 0 ≤ need ∧ need ≤ 2 := by rw [hneed]; exact need_le op
  refine ifB_intro (fun hs => RpR.none fun f0 rest k => ?_) (fun hs => ?_)
  · have h1 := hC f0 rest k
    have h2 := argW_len k.1
    rw [hfop f0 rest k, ← hneed] at h2
    have := congrArg List.length h1
    rw [List.length_append] at this
    simp at hs
    omega
  simp at hs
  refine ⟨fun op' a b nm l l1 ok n => op' = op ∧ b = 0 ∧ l = [] ∧ l1 = nR ws1 ∧ ok = true ∧ n = left - 1 ∧ nm.size ≤ 100000 ∧ ∀ f0 rest, RpH (deep + 1) left (w0 :: ws1) f0 rest → nm = f0.nm ∧ a = awOf f0, fun _ _ _ _ _ _ _ _ => 0, ?_, ?_⟩
  · refine ifB_intro (fun h4 => ?_) (fun h4 => ifB_intro (fun hp => ?_) (fun hp => ⟨rfl, rfl, rfl, rfl, rfl, rfl, rfl, by simp [ByteArray.size], fun f0 rest k => ?_⟩))
    · simp at h4
      subst h4
      have hl1 : 0 < ws1.length := by simp [needOf] at hneed; omega
      obtain ⟨v, ws2, rfl⟩ : ∃ x xs, ws1 = x :: xs := by
        cases ws1 with
        | nil => simp at hl1
        | cons x xs => exact ⟨x, xs, rfl⟩
      have hv := hw1 v (by simp)
      have hsp : ∀ f0 rest, RpH (deep + 1) left (w0 :: v :: ws2) f0 rest → v = Trm.spell f0.nm ∧ f0.nm.size ≤ 24 ∧ f0.a = 0 := fun f0 rest k => by
        have h1 := hC f0 rest k
        have ho := hfop f0 rest k
        have hk := ok_one k.1
        rw [argW, ho] at h1
        simp [hdW] at h1
        unfold OkOne at hk
        exact ⟨h1.1, by omega, by omega⟩
      refine ⟨by simp, _, rfl, fun i op' a b nm l l1 ok n => op' = 4 ∧ a = 0 ∧ b = 0 ∧ l = [] ∧ l1 = nR (v :: ws2) ∧ ok = true ∧ n = left - 1 ∧ ∃ k : Nat, i = ((2 * k : Nat) : Int) ∧ 2 * k ≤ v.length + 1 ∧ nm.size = k ∧ ∀ f0 rest, RpH (deep + 1) left (w0 :: v :: ws2) f0 rest → nm = bA (f0.nm.data.toList.take k),
        fun i _ _ _ _ _ _ _ _ => v.length + 1 - i.toNat, ⟨rfl, rfl, rfl, rfl, rfl, rfl, rfl, 0, rfl, by omega, rfl, fun _ _ _ => rfl⟩, ?_⟩
      rintro _ _ _ _ s3 _ _ _ _ ⟨rfl, rfl, rfl, rfl, rfl, rfl, rfl, k, rfl, hk, hsz, hco⟩
      rw [slen_bA, wadd_i64 (b := 1) (by omega) (by omega)]
      refine ifB_intro (fun hlt => ?_) (fun hge => ⟨rfl, rfl, rfl, rfl, rfl, rfl, rfl, by omega, fun f0 rest kk => ?_⟩)
      · simp at hlt
        have g0 : 2 * k < v.length := by omega
        have g1 : 2 * k + 1 < v.length := by omega
        rw [sbyte_bA (i := ((2 * k : Nat) : Int)) (c := v[2 * k]) (by omega) (by rw [Int.toNat_natCast]; simp [g0]), sbyte_bA (i := ((2 * k : Nat) : Int) + 1) (c := v[2 * k + 1]) (by omega) (by rw [show (((2 * k : Nat) : Int) + 1).toNat = 2 * k + 1 by omega]; simp [g1])]
        refine ⟨by omega, by omega, Cl.ofQ (value_fn _) ?_⟩
        rintro r ⟨x, rfl, hx0, hx1, hx2⟩
        refine ⟨_, rfl, Cl.ofQ (value_fn _) ?_⟩
        rintro r ⟨y, rfl, hy0, hy1, hy2⟩
        have hby : ∃ z : UInt8, wadd .u8 (wmul .u8 16 x) y = (z.toNat : Int) := by
          have h8 : 0 ≤ wadd .u8 (wmul .u8 16 x) y ∧ wadd .u8 (wmul .u8 16 x) y < 256 := by
            have : wadd .u8 (wmul .u8 16 x) y = (wmul .u8 16 x + y) % 256 := by simp [wadd, IntKind.wrap, IntKind.bits, IntKind.signed]
            omega
          refine ⟨UInt8.ofNat (wadd .u8 (wmul .u8 16 x) y).toNat, ?_⟩
          rw [UInt8.toNat_ofNat']; omega
        obtain ⟨z, hz⟩ := hby
        refine ⟨y, rfl, ?_⟩
        rw [hz]
        refine ⟨isBytes_1 z, by rw [bstr_1, lsum_eq, show slen s3 = ((s3.size : Nat) : Int) from rfl, hsz, slen_bA]; simp; omega, rfl, ⟨rfl, rfl, rfl, rfl, rfl, rfl, rfl, k + 1, ?_, by omega, ?_, fun f0 rest kk => ?_⟩, stepL ?_⟩
        · rw [wadd_i64 (by omega) (by omega)]; omega
        · rw [bstr_1]
          show (s3 ++ bA [z]).size = k + 1
          rw [ByteArray.size_append, hsz]; rfl
        · obtain ⟨hv2, _, _⟩ := hsp f0 rest kk
          have hlen := flat_len f0.nm.data.toList
          have hka : k < f0.nm.data.toList.length := by
            rw [hv2] at g1; unfold Trm.spell at g1; omega
          obtain ⟨p1, p2⟩ := flat_get f0.nm.data.toList k hka
          have p1' : v[2 * k]? = some (hd1 (f0.nm.data.toList[k].toNat / 16)) := by rw [hv2]; exact p1
          have p2' : v[2 * k + 1]? = some (hd1 (f0.nm.data.toList[k].toNat % 16)) := by rw [hv2]; exact p2
          rw [List.getElem?_eq_getElem g0] at p1'
          rw [List.getElem?_eq_getElem g1] at p2'
          have h256 := UInt8.toNat_lt f0.nm.data.toList[k]
          have ex := hx2 _ (by omega) (Option.some.inj p1')
          have ey := hy2 _ (by omega) (Option.some.inj p2')
          have ez : z = f0.nm.data.toList[k] := by
            apply UInt8.toNat_inj.1
            have e16 : wmul .u8 16 x = 16 * x := by
              have : wmul .u8 16 x = (16 * x) % 256 := by simp [wmul, IntKind.wrap, IntKind.bits, IntKind.signed]
              omega
            rw [e16, wadd8 (by omega) (by omega)] at hz
            omega
          rw [hco f0 rest kk, bstr_1, scat_bA, ez, List.take_add_one, List.getElem?_eq_getElem hka]
          rfl
        · rw [wadd_i64 (by omega) (by omega)]
          show v.length + 1 - (((2 * k : Nat) : Int) + 2).toNat < v.length + 1 - (((2 * k : Nat) : Int)).toNat
          omega
      · simp at hge
        obtain ⟨hv2, _, ha⟩ := hsp f0 rest kk
        have hlen := flat_len f0.nm.data.toList
        have ho := hfop f0 rest kk
        have hk2 : k = f0.nm.data.toList.length := by
          rw [hv2] at hge hk; unfold Trm.spell at hge hk; omega
        refine ⟨by rw [hco f0 rest kk, hk2, List.take_length, bA_of], ?_⟩
        rw [awOf, ho, ha]; simp
    · simp at h4 hp
      have hl1 : 0 < ws1.length := by omega
      obtain ⟨v, ws2, rfl⟩ : ∃ x xs, ws1 = x :: xs := by
        cases ws1 with
        | nil => simp at hl1
        | cons x xs => exact ⟨x, xs, rfl⟩
      refine ⟨by simp, _, rfl, Cl.ofQ (numw_fn v) ?_⟩
      rintro r ⟨u, rfl, hu⟩
      refine ⟨_, rfl, rfl, rfl, rfl, rfl, rfl, rfl, rfl, by simp [ByteArray.size], fun f0 rest k => ?_⟩
      have h1 := hC f0 rest k
      have ho := hfop f0 rest k
      have hk := ok_one k.1
      have hks := cnt_ks_le f0
      have hcn := k.2.2.1
      rw [hneed] at hp
      unfold needOf at hp
      rw [← ho] at hp h4
      rw [argW] at h1
      unfold OkOne at hk
      rcases hk with ⟨e, hk⟩ | ⟨e, hk⟩ | ⟨e, hk⟩ | ⟨e, hk⟩ | ⟨e, hk⟩ | ⟨e, hk⟩ | ⟨e, hk⟩ | ⟨e, hk⟩ <;> rw [e] at hp h4 h1 <;> simp [hdW] at hp h4 h1
      · exact ⟨(size_0.2 (by omega)).symm, by rw [awOf, e]; simp; exact hu _ (by omega) (by omega) h1.1⟩
      · exact ⟨(size_0.2 (by omega)).symm, by rw [awOf, e]; simp; exact hu _ (by omega) (by omega) h1.1⟩
      · exact ⟨(size_0.2 (by omega)).symm, by rw [awOf, e]; simp; exact hu _ (by omega) (by omega) h1.1⟩
      · exact ⟨(size_0.2 (by omega)).symm, by rw [awOf, e]; simp; exact hu _ (by omega) (by omega) h1.1⟩
      · exact ⟨(size_0.2 (by omega)).symm, by rw [awOf, e]; simp; exact hu _ (by omega) (by omega) h1.1⟩
    · simp at h4 hp
      have ho := hfop f0 rest k
      have hk := ok_one k.1
      have : op = 1 ∨ op = 8 := by
        rw [hneed] at hp; unfold needOf at hp
        split at hp
        · omega
        · split at hp <;> omega
      unfold OkOne at hk
      refine ⟨(size_0.2 (by omega)).symm, ?_⟩
      rw [awOf, ho, if_neg (by omega)]
      omega
  rintro op a1 _ nm1 _ _ _ _ ⟨rfl, rfl, rfl, rfl, rfl, rfl, hnm1, hA⟩
  refine ⟨fun op' a b nm l l1 ok n => op' = op ∧ a = a1 ∧ nm = nm1 ∧ l = [] ∧ l1 = nR ws1 ∧ ok = true ∧ n = left - 1 ∧ ∀ f0 rest, RpH (deep + 1) left (w0 :: ws1) f0 rest → b = f0.b, fun _ _ _ _ _ _ _ _ => 0, ?_, ?_⟩
  · refine ifB_intro (fun h2 => ?_) (fun h2 => ⟨rfl, rfl, rfl, rfl, rfl, rfl, rfl, rfl, fun f0 rest k => ?_⟩)
    · simp at h2
      subst h2
      obtain ⟨v, v2, ws2, rfl⟩ : ∃ x y xs, ws1 = x :: y :: xs := by
        match ws1, hs with
        | x :: y :: xs, _ => exact ⟨x, y, xs, rfl⟩
        | [x], hs => simp at hs
        | [], hs => simp at hs
      refine ⟨by simp; omega, _, rfl, Cl.ofQ (numw_fn v2) ?_⟩
      rintro r ⟨u, rfl, hu⟩
      refine ⟨_, rfl, rfl, rfl, rfl, rfl, rfl, rfl, rfl, rfl, fun f0 rest k => ?_⟩
      have h1 := hC f0 rest k
      have ho := hfop f0 rest k
      have hk := ok_one k.1
      have : op = 2 ∨ op = 3 := by
        unfold needOf at hneed
        split at hneed
        · assumption
        · split at hneed <;> omega
      rw [argW] at h1
      unfold OkOne at hk
      rcases hk with ⟨e, hk⟩ | ⟨e, hk⟩ | ⟨e, hk⟩ | ⟨e, hk⟩ | ⟨e, hk⟩ | ⟨e, hk⟩ | ⟨e, hk⟩ | ⟨e, hk⟩ <;> first | omega | skip
      · rw [e] at h1; simp [hdW] at h1
        exact hu _ (by omega) (by omega) h1.2.1
      · rw [e] at h1; simp [hdW] at h1
        exact hu _ (by omega) (by omega) h1.2.1
    · simp at h2
      have ho := hfop f0 rest k
      have hk := ok_one k.1
      have : op ≠ 2 ∧ op ≠ 3 := by
        refine ⟨fun e => h2 ?_, fun e => h2 ?_⟩ <;> rw [hneed, e] <;> simp [needOf]
      unfold OkOne at hk
      omega
  rintro op a1 b2 nm1 _ _ _ _ ⟨rfl, rfl, rfl, rfl, rfl, rfl, rfl, hB⟩
  obtain ⟨nd, rfl⟩ : ∃ nd : Nat, need = nd := ⟨need.toNat, by omega⟩
  have e3 : rsub (nR ws1) (nd : Int) (rlen (nR ws1)) = nR (ws1.drop nd) := rsub_nR ws1 nd
  rw [e3]
  have hD : ∀ f0 rest, RpH (deep + 1) left (w0 :: ws1) f0 rest → ws1.drop nd = wdsL f0.ks ++ rest := fun f0 rest k => by
    have h1 := hC f0 rest k
    have h2 := argW_len k.1
    rw [hfop f0 rest k, ← hneed] at h2
    rw [h1, show nd = (argW f0).length by omega, List.drop_left]
  refine ⟨by simp; omega, fun many op' a b nm l l1 ok n => op' = op ∧ nm = nm1 ∧ b = b2 ∧ l = [] ∧ l1 = nR (ws1.drop nd) ∧ ok = true ∧ n = left - 1 ∧ ∀ f0 rest, RpH (deep + 1) left (w0 :: ws1) f0 rest → a = f0.a ∧ many = f0.ks.length, fun _ _ _ _ _ _ _ _ _ => 0, ?_, ?_⟩
  · refine ifB_intro (fun h6 => ifB_intro (fun hneg => RpR.none fun f0 rest k => ?_) (fun hneg => ⟨rfl, rfl, rfl, rfl, rfl, rfl, rfl, rfl, fun f0 rest k => ?_⟩)) (fun h6 => ⟨rfl, rfl, rfl, rfl, rfl, rfl, rfl, rfl, fun f0 rest k => ?_⟩)
    · simp at h6 hneg
      have ha := (hA f0 rest k).2
      rw [awOf, hfop f0 rest k, if_pos h6] at ha
      omega
    · simp at h6
      have ha := (hA f0 rest k).2
      have ho := hfop f0 rest k
      have hk := ok_one k.1
      rw [awOf, ho, if_pos h6] at ha
      unfold OkOne at hk
      exact ⟨by omega, ha⟩
    · simp at h6
      have ha := (hA f0 rest k).2
      have ho := hfop f0 rest k
      have hk := ok_one k.1
      rw [awOf, ho, if_neg (by omega)] at ha
      unfold OkOne at hk
      unfold kidOf
      refine ⟨ha, ?_⟩
      split <;> omega
  rintro many op a3 b2 nm1 _ _ _ _ ⟨rfl, rfl, rfl, rfl, rfl, rfl, rfl, hM⟩
  have hdl : ∀ x ∈ ws1.drop nd, x.length ≤ 100000 := fun x hx => hw1 x (List.mem_of_mem_drop hx)
  refine ⟨fun i op' a b nm rows l1 ok n => op' = op ∧ a = a3 ∧ b = b2 ∧ nm = nm1 ∧ ok = true ∧ ∃ (ks : List FlD) (ws3 : List Tx), rows = ks.map FlD.row ∧ l1 = nR ws3 ∧ smL ks ∧ i = ks.length ∧ 0 ≤ n ∧ n + i ≤ left - 1 ∧ (∀ x ∈ ws3, x.length ≤ 100000) ∧ ws3.length ≤ 200000 ∧
      ∀ f0 rest, RpH (deep + 1) left (w0 :: ws1) f0 rest → ks.length ≤ f0.ks.length ∧ ks = f0.ks.take ks.length ∧ ws3 = wdsL (f0.ks.drop ks.length) ++ rest ∧ n = left - 1 - cntL (f0.ks.take ks.length),
    fun i _ _ _ _ _ _ _ _ => (many - i).toNat, ⟨rfl, rfl, rfl, rfl, rfl, [], ws1.drop nd, rfl, rfl, trivial, rfl, by omega, by simp, hdl, by rw [List.length_drop]; omega, fun f0 rest k => ⟨by simp, by simp, by simpa using hD f0 rest k, by simp [cntL]⟩⟩, ?_⟩
  rintro _ op a3 b2 nm1 _ _ _ n1 ⟨rfl, rfl, rfl, rfl, rfl, ks, ws3, rfl, rfl, hsm, rfl, hn10, hn11, hw3, hwl3, hback⟩
  refine ifB_intro (fun hlt => ?_) (fun hge => ?_)
  · simp at hlt
    rw [wsub_i64 (by omega) (by omega), show ((deep + 1 : Nat) : Int) - 1 = (deep : Int) by omega]
    refine Cl.ofQ (ih ws3 n1 hw3 hwl3 hn10 (by omega)) ?_
    rintro r ⟨fo, fa, fb, fn, fks, ws4, ok4, n4, rfl, hsm4, hfn, hfks, hw4, hwl4, hok4, hC4⟩
    have step : ∀ f0 rest, RpH (deep + 1) left (w0 :: ws1) f0 rest → ∃ h : ks.length < f0.ks.length, f0.ks[ks.length] = .mk fo fa fb fn fks ∧ ws4 = wdsL (f0.ks.drop (ks.length + 1)) ++ rest ∧ ok4 = true ∧ n4 = n1 - cnt f0.ks[ks.length] := fun f0 rest k => by
      obtain ⟨q1, q2, q4, q5⟩ := hback f0 rest k
      have hm2 := (hM f0 rest k).2
      have hlt' : ks.length < f0.ks.length := by omega
      have hdr : f0.ks.drop ks.length = f0.ks[ks.length] :: f0.ks.drop (ks.length + 1) := List.drop_eq_getElem_cons hlt'
      rw [hdr, wdsL, List.append_assoc] at q4
      have hm := List.getElem_mem hlt'
      have hdm := depL_mem hm
      have hcs := cntL_snoc f0.ks ks.length hlt'
      have hcl := cntL_take_le f0.ks (ks.length + 1)
      have hdp := k.2.1
      have hcn := k.2.2.1
      rw [dep_ks] at hdp
      rw [cnt_ks] at hcn
      obtain ⟨s1, s2, s3, s4⟩ := hC4 f0.ks[ks.length] _ ⟨(okL_iff _).1 (okL_ks k.1) _ hm, by omega, by omega, q4⟩
      exact ⟨hlt', s1, s2, s3, s4⟩
    refine ⟨_, _, _, _, _, _, _, _, rfl, ifB_intro (fun hb => RpR.none fun f0 rest k => ?_) (fun hb => ⟨by simp; omega, rfl, ⟨rfl, rfl, rfl, rfl, rfl, ks ++ [.mk fo fa fb fn fks], ws4, ?_, rfl, smL_of fun x hx => ?_, ?_, ?_, ?_, hw4, hwl4, fun f0 rest k => ?_⟩, stepL ?_⟩)⟩
    · obtain ⟨_, _, _, s3, _⟩ := step f0 rest k
      rw [s3] at hb; simp at hb
    · rw [List.map_append]; simp [rapp, row_mk]
    · rcases List.mem_append.1 hx with hx | hx
      · exact smL_mem hsm hx
      · simp at hx; subst hx; rw [smF]; exact ⟨by omega, by omega, hsm4⟩
    · rw [wadd_i64 (by omega) (by omega)]; simp
    · simp at hb; exact (hok4 hb).1
    · simp at hb; have := hok4 hb; rw [wadd_i64 (by omega) (by omega)]; omega
    · obtain ⟨q1, q2, q4, q5⟩ := hback f0 rest k
      obtain ⟨hlt', s1, s2, s3, s4⟩ := step f0 rest k
      have hcs := cntL_snoc f0.ks ks.length hlt'
      rw [List.length_append, List.length_singleton]
      refine ⟨by omega, ?_, s2, by omega⟩
      rw [List.take_add_one, List.getElem?_eq_getElem hlt', ← q2, s1]
      rfl
    · rw [wadd_i64 (by omega) (by omega)]
      show (many - (ks.length + 1)).toNat < (many - ks.length).toNat
      omega
  · simp at hge
    refine ⟨op, a3, b2, nm1, ks, ws3, true, n1, rfl, hsm, hnm1, by omega, hw3, hwl3, fun _ => ⟨hn10, by omega⟩, fun f0 rest k => ?_⟩
    obtain ⟨q1, q2, q4, q5⟩ := hback f0 rest k
    have hm2 := hM f0 rest k
    have hnm := (hA f0 rest k).1
    have hb2 := hB f0 rest k
    have ho := hfop f0 rest k
    have hl2 : ks.length = f0.ks.length := by omega
    rw [hl2, List.take_length] at q2 q5
    rw [hl2, List.drop_length] at q4
    refine ⟨?_, by simpa [wdsL] using q4, rfl, by rw [cnt_ks]; omega⟩
    cases f0
    simp only [FlD.op, FlD.a, FlD.b, FlD.nm, FlD.ks] at ho hm2 hnm hb2 q2
    rw [ho, hm2.1, hnm, hb2, q2]

theorem rparse_fn : ∀ (deep : Nat), deep ≤ 100 → ∀ (w : List Tx) (left : Int), (∀ x ∈ w, x.length ≤ 100000) → w.length ≤ 200000 → 0 ≤ left → left ≤ 64 → Ct Tryd.prog 44 {} [SL 1 (nR w), I deep, I left] (RpR deep left w)
  | 0, _, w, left, hw, hwl, hl0, hl => by
    refine rparse_nf _ _ _ _ (ifB_intro (fun h => ?_) (fun h => ?_))
    · refine RpR.none fun f0 rest k => ?_
      have := dep_pos f0
      have := k.2.1
      omega
    · simp at h
  | deep + 1, hd, w, left, hw, hwl, hl0, hl => rparse_step deep (fun w left h1 h2 h3 h4 => rparse_fn deep (by omega) w left h1 h2 h3 h4) (by omega) w left hw hwl hl0 hl
end Go.Proofs.YtknnooannohflaaDoor.Trm
