/- Layer 22: the reader of a filter's words. -/
import Derived.Test.YtknnooannohflaaDoorTrmC
import Derived.Test.YtknnooannohflaaDoorTrmE
namespace Go.Proofs.YtknnooannohflaaDoor.Trm
open Go Go.Px Go.Proofs
set_option maxRecDepth 100000
set_option linter.unusedVariables false

theorem idx_no : ∀ {w : Tx}, 32 ∉ w → Lib.indexByte w 32 = -1
  | [], _ => rfl
  | c :: w, h => by
    have hc : (c == 32) = false := by
      rw [beq_eq_false_iff_ne]; exact fun e => h (by simp [e])
    unfold Lib.indexByte
    rw [hc, idx_no (fun hm => h (by simp [hm]))]
    rfl
theorem idx_hit : ∀ {w : Tx} (r : Tx), 32 ∉ w → Lib.indexByte (w ++ 32 :: r) 32 = w.length
  | [], r, _ => rfl
  | c :: w, r, h => by
    have hc : (c == 32) = false := by
      rw [beq_eq_false_iff_ne]; exact fun e => h (by simp [e])
    rw [List.cons_append]
    unfold Lib.indexByte
    rw [hc, idx_hit r (fun hm => h (by simp [hm]))]
    have : ((w.length : Int) == -1) = false := by rw [beq_eq_false_iff_ne]; omega
    rw [this]
    simp

theorem ssub_bA (l : Tx) (a b : Int) : ssub (bA l) a b = bA ((l.take b.toNat).drop a.toNat) := by
  apply bA_ext.2
  unfold ssub
  rw [ByteArray.data_extract, Array.toList_extract, bA_list]
  simp [List.extract_eq_take_drop, List.drop_take]
theorem slen_bA (l : Tx) : slen (bA l) = l.length := by
  show (((bA l).size : Nat) : Int) = _
  simp [ByteArray.size]

abbrev mor (ws : List Tx) : Bool := !ws.isEmpty
abbrev rdv (ws : List Tx) (n : Int) (bad : Bool) : SV := rd4 (bA (jn ws)) (mor ws) n bad

/-- Words without blanks, not too many. -/
structure NoS (ws : List Tx) : Prop where
  no : ∀ w ∈ ws, 32 ∉ w
  len : (jn ws).length ≤ 100000
theorem jn_tail (w : Tx) (ws : List Tx) : (jn ws).length ≤ (jn (w :: ws)).length ∧ w.length ≤ (jn (w :: ws)).length := by
  cases ws with
  | nil => rw [jn_one]; simp [Lib.join_nil]
  | cons v ws => rw [jn_cons]; simp; omega
theorem NoS.tail {w : Tx} {ws : List Tx} (h : NoS (w :: ws)) : NoS ws :=
  ⟨fun x hx => h.no x (by simp [hx]), Nat.le_trans (jn_tail w ws).1 h.len⟩

theorem cut_fn {w : Tx} {ws : List Tx} (h : NoS (w :: ws)) : Ct Tryd.prog 29 {} [S (bA (jn (w :: ws))), S (ByteArray.mk (Array.mk [32]))] (fun r => r = [S (bA w), S (bA (jn ws)), B (mor ws)]) := by
  have hl := h.len
  have hw := h.no w (by simp)
  have e1 : slen (ByteArray.mk (Array.mk [32])) = 1 := by decide
  have key : Ct Tryd.prog 73 {} [S (bA (jn (w :: ws))), S (ByteArray.mk (Array.mk [32]))] (fun r => r = [S (bA w), S (bA (jn ws)), B (mor ws)]) := by
    refine tcut2_nf _ _ _ (Cl.of (idx1_fn _) ⟨_, rfl, ?_⟩)
    rw [bA_list, e1, slen_bA]
    cases ws with
    | nil =>
      rw [jn_one, idx_no hw]
      exact ifB_intro (fun h => by simp at h) (fun _ => rfl)
    | cons v ws =>
      rw [jn_cons] at hl ⊢
      simp only [List.length_append, List.length_cons] at hl
      rw [idx_hit _ hw, wadd_i64 (by omega) (by omega), ssub_bA, ssub_bA]
      refine ifB_intro (fun _ => ⟨by simp; omega, ⟨by omega, by simp; omega, by omega⟩, ?_⟩) (fun h => by simp at h)
      have q1 : (List.take (Int.toNat (w.length : Int)) (w ++ 32 :: jn (v :: ws))).drop (Int.toNat 0) = w := by simp
      have q2 : (List.take (Int.toNat ((w ++ 32 :: jn (v :: ws)).length : Int)) (w ++ 32 :: jn (v :: ws))).drop (Int.toNat ((w.length : Int) + 1)) = jn (v :: ws) := by
        rw [Int.toNat_natCast, List.take_length, show ((w.length : Int) + 1).toNat = (w ++ [32]).length by simp, show w ++ 32 :: jn (v :: ws) = (w ++ [32]) ++ jn (v :: ws) by simp, List.drop_left]
      rw [q1, q2]
      rfl
  refine tcut_nf _ _ _ (Cl.of key ⟨_, _, _, rfl, rfl⟩)

theorem word_fn {ws : List Tx} (h : NoS ws) (n : Int) (bad : Bool) : Ct Tryd.prog 97 ⟨[.lend []], []⟩ [rdv ws n bad] (fun r => r = match ws with | [] => [S (bA []), rdv [] n true] | w :: ws => [S (bA w), rdv ws n bad]) := by
  refine tword_nf _ _ _ _ _ (ifB_intro (fun hm => ?_) (fun hm => ?_))
  · cases ws with
    | nil => rfl
    | cons w ws => simp [mor] at hm
  · cases ws with
    | nil => simp [mor] at hm
    | cons w ws => exact Cl.of (cut_fn h) ⟨_, _, _, rfl, rfl⟩

/-- What number tells. -/
def NuR (ws : List Tx) (n : Int) (bad : Bool) (r : List SV) : Prop :=
  ∃ v ws' bad', r = [I v, rdv ws' n bad'] ∧ NoS ws' ∧ (bad = true → bad' = true) ∧ ∀ (x : Int) rest, 0 ≤ x → x ≤ 1099511627776 → ws = Lib.itoa x :: rest → v = x ∧ ws' = rest ∧ bad' = bad

theorem number_fn {ws : List Tx} (h : NoS ws) (n : Int) (bad : Bool) : Ct Tryd.prog 98 ⟨[.lend []], []⟩ [rdv ws n bad] (NuR ws n bad) := by
  refine tnumber_nf _ _ _ _ _ (Cl.ofQ (word_fn h n bad) ?_)
  rintro r rfl
  have fin : ∀ (w : Tx) (ws' : List Tx) (bad1 : Bool) (hn : NoS ws') (hb : bad = true → bad1 = true) (hw : ∀ (x : Int) rest, ws = Lib.itoa x :: rest → w = Lib.itoa x ∧ ws' = rest ∧ bad1 = bad) (hl : w.length ≤ 100000),
      ∃ s s1 b x b1, [S (bA w), rdv ws' n bad1] = [S s, SV.agg [S s1, B b, I x, B b1]] ∧
        Cl Tryd.prog 142 sP [S s, I 10, I 64] (fun rs1 => ∃ x1 : Int, ∃ b2 : Bool, ifB b2 ((rs1 = [I x1, SV.val Value.nilIface]) ∧ ((isIfc (SV.val Value.nilIface) = true) ∧ (ifB (Bool.rec true false (isNilS (SV.val Value.nilIface))) (NuR ws n bad ([I 0, SV.agg [S s1, B b, I x, B true]])) (NuR ws n bad ([I x1, SV.agg [S s1, B b, I x, B b1]]))))) (∃ i : Nat, (rs1 = [I x1, SV.ifc i SV.unk]) ∧ ((isIfc (SV.ifc i SV.unk) = true) ∧ (ifB (Bool.rec true false (isNilS (SV.ifc i SV.unk))) (NuR ws n bad ([I 0, SV.agg [S s1, B b, I x, B true]])) (NuR ws n bad ([I x1, SV.agg [S s1, B b, I x, B b1]])))))) := by
    intro w ws' bad1 hn hb hw hl
    refine ⟨_, _, _, _, _, rfl, Cl.ofQ (pint_fn (bA w) (by simp [ByteArray.size]; omega)) ?_⟩
    rintro r ⟨v, e, rfl, ⟨hp, rfl⟩ | ⟨hp, rfl⟩⟩
    · rw [bA_list] at hp
      refine ⟨_, true, rfl, rfl, v, ws', bad1, rfl, hn, hb, fun x rest h0 h1 hx => ?_⟩
      obtain ⟨rfl, h2, h3⟩ := hw x rest hx
      rw [parseInt_itoa h0 h1] at hp
      exact ⟨(Lib.NumEnd.ok.inj hp).symm, h2, h3⟩
    · rw [bA_list] at hp
      refine ⟨_, false, _, rfl, rfl, 0, ws', true, rfl, hn, fun _ => rfl, fun x rest h0 h1 hx => ?_⟩
      obtain ⟨rfl, h2, h3⟩ := hw x rest hx
      exact absurd (parseInt_itoa h0 h1) (hp x)
  cases ws with
  | nil => exact fin [] [] true h (fun _ => rfl) (fun x rest e => by simp at e) (by simp)
  | cons w ws =>
    refine fin w ws bad h.tail id (fun x rest e => ?_) (Nat.le_trans (jn_tail w ws).2 h.len)
    simp at e
    exact ⟨e.1, e.2, rfl⟩

/- Names. -/
theorem hex_idx {n : Nat} (h : n < 16) : Lib.indexByte (ByteArray.mk (Array.mk [48, 49, 50, 51, 52, 53, 54, 55, 56, 57, 97, 98, 99, 100, 101, 102])).data.toList (hd1 n) = n := by
  have : ∀ m : Fin 16, Lib.indexByte (ByteArray.mk (Array.mk [48, 49, 50, 51, 52, 53, 54, 55, 56, 57, 97, 98, 99, 100, 101, 102])).data.toList (hd1 m.val) = m.val := by decide
  exact this ⟨n, h⟩

theorem flat_len (l : Tx) : (l.flatMap hx).length = 2 * l.length := by
  induction l with
  | nil => rfl
  | cons c l ih => rw [List.flatMap_cons, List.length_append, ih]; simp [hx]; omega
theorem flat_get : ∀ (l : Tx) (k : Nat) (h : k < l.length), (l.flatMap hx)[2 * k]? = some (hd1 (l[k].toNat / 16)) ∧ (l.flatMap hx)[2 * k + 1]? = some (hd1 (l[k].toNat % 16))
  | c :: l, 0, _ => by simp [hx]
  | c :: l, k + 1, h => by
    have := flat_get l k (by simpa using h)
    rw [List.flatMap_cons, show 2 * (k + 1) = 2 * k + 2 by omega]
    simpa [hx] using this
theorem sbyte_bA {w : Tx} {i : Int} {c : UInt8} (h0 : 0 ≤ i) (h : w[i.toNat]? = some c) : sbyte (bA w) i = (c.toNat : Int) := by
  unfold sbyte
  have : (bA w).data.getD i.toNat 0 = c := by
    rw [Array.getD_eq_getD_getElem?, show (bA w).data[i.toNat]? = w[i.toNat]? by simp, h]; rfl
  rw [this]
theorem hexPair (x : Nat) (h : x < 256) : wcv .u8 (wor .i64 (wshl .i64 ((x / 16 : Nat) : Int) 4) ((x % 16 : Nat) : Int)) = x := by
  have : ∀ m : Fin 256, wcv .u8 (wor .i64 (wshl .i64 ((m.val / 16 : Nat) : Int) 4) ((m.val % 16 : Nat) : Int)) = m.val := by decide +kernel
  exact this ⟨x, h⟩

abbrev uR (l : Tx) : List (List SV) := l.map fun b => [U8 (b.toNat : Int)]
theorem bstr_uR (l : Tx) : bstr (uR l) = bA l := by
  unfold bstr
  rw [List.map_map]
  congr 2
  conv => rhs; rw [← List.map_id l]
  refine List.map_congr_left fun b _ => ?_
  simp [byteOfRow]
theorem isBytes_of {rows : List (List SV)} (h : ∀ r ∈ rows, ∃ n : Int, r = [U8 n] ∧ 0 ≤ n ∧ n < 256) : isBytes rows := h
theorem wcv8 (x : Int) : 0 ≤ wcv .u8 x ∧ wcv .u8 x < 256 := by
  have : wcv .u8 x = x % 256 := by simp [wcv, IntKind.wrap, IntKind.bits, IntKind.signed]
  omega

/-- What name tells. -/
def NaR (ws : List Tx) (n : Int) (bad : Bool) (r : List SV) : Prop :=
  ∃ s ws' bad', r = [S s, rdv ws' n bad'] ∧ NoS ws' ∧ s.size ≤ 24 ∧ (bad = true → bad' = true) ∧ ∀ (a : ByteArray) rest, a.size ≤ 24 → ws = spell a :: rest → s = a ∧ ws' = rest ∧ bad' = bad

theorem name_fn {ws : List Tx} (h : NoS ws) (n : Int) (bad : Bool) : Ct Tryd.prog 99 ⟨[.lend []], []⟩ [rdv ws n bad] (NaR ws n bad) := by
  refine tname_nf _ _ _ _ _ (Cl.ofQ (word_fn h n bad) ?_)
  rintro r rfl
  obtain ⟨w, ws', bad1, e, hn, hb, hw, hl⟩ : ∃ (w : Tx) (ws' : List Tx) (bad1 : Bool), (match ws with | [] => [S (bA []), rdv [] n true] | w :: ws => [S (bA w), rdv ws n bad]) = [S (bA w), rdv ws' n bad1] ∧ NoS ws' ∧ (bad = true → bad1 = true) ∧
      (∀ (a : ByteArray) rest, ws = spell a :: rest → w = spell a ∧ ws' = rest ∧ bad1 = bad) ∧ w.length ≤ 100000 := by
    cases ws with
    | nil => exact ⟨[], [], true, rfl, h, fun _ => rfl, fun a rest e => by simp at e, by simp⟩
    | cons w ws =>
      refine ⟨w, ws, bad, rfl, h.tail, id, fun a rest e => ?_, Nat.le_trans (jn_tail w ws).2 h.len⟩
      simp at e
      exact ⟨e.1, e.2, rfl⟩
  have bad_end : ∀ (bb : Bool), (∀ (a : ByteArray) rest, a.size ≤ 24 → ws = spell a :: rest → False) → NaR ws n bad [S (bA []), SV.agg [S (bA (jn ws')), B (mor ws'), I n, B true]] := fun bb hno =>
    ⟨_, ws', true, rfl, hn, by simp [ByteArray.size], fun _ => rfl, fun a rest ha e => (hno a rest ha e).elim⟩
  refine ⟨_, _, _, _, _, e, by omega, ?_⟩
  have e2 : wrem (slen (bA w)) 2 = ((w.length % 2 : Nat) : Int) := by
    rw [slen_bA]; show (w.length : Int).tmod 2 = _; rw [Int.tmod_eq_emod_of_nonneg (by omega)]; omega
  have e3 : wquo .i64 (slen (bA w)) 2 = ((w.length / 2 : Nat) : Int) := by
    rw [slen_bA]; show IntKind.i64.wrap ((w.length : Int).tdiv 2) = _
    rw [Int.tdiv_eq_ediv_of_nonneg (by omega), wrap_i64 (by omega) (by omega)]; omega
  rw [e2, e3]
  refine ifB_intro (fun hc => bad_end true fun a rest ha hx => ?_) (fun hc => ⟨by omega, ⟨by omega, by omega, by omega⟩, ?_⟩)
  · obtain ⟨rfl, _, _⟩ := hw a rest hx
    rw [slen_bA, spell_len] at hc
    simp at hc
    omega
  · rw [slen_bA] at hc
    simp at hc
    refine ⟨fun s l i s3 b2 x2 b3 => s3 = bA (jn ws') ∧ b2 = mor ws' ∧ x2 = n ∧ b3 = bad1 ∧ ∃ k : Nat, i = ((2 * k : Nat) : Int) ∧ 2 * k ≤ w.length ∧ l.length = k ∧ isBytes l ∧ ∀ (a : ByteArray), w = spell a → l = uR (a.data.toList.take k),
      fun _ _ i _ _ _ _ => w.length - i.toNat, ⟨rfl, rfl, rfl, rfl, 0, rfl, by omega, rfl, fun r hr => by simp [rrep] at hr, fun a _ => by simp [rrep]⟩, ?_⟩
    rintro s l _ s3 b2 x2 b3 ⟨h31, h32, h33, h34, k, rfl, hk, hlk, hby, hco⟩
    obtain rfl : bA (jn ws') = s3 := h31.symm
    obtain rfl : mor ws' = b2 := h32.symm
    obtain rfl : n = x2 := h33.symm
    obtain rfl : bad1 = b3 := h34.symm
    refine ifB_intro (fun hlt => ?_) (fun hge => ?_)
    · rw [slen_bA] at hlt ⊢
      simp at hlt
      rw [wadd_i64 (by omega) (by omega), wadd_i64 (by omega) (by omega)]
      refine ⟨⟨by omega, by omega⟩, Cl.of (idxB_fn _ _) ⟨_, rfl, ⟨by omega, by omega⟩, Cl.of (idxB_fn _ _) ⟨_, rfl, ?_⟩⟩⟩
      obtain ⟨c0, hc0⟩ : ∃ c, w[2 * k]? = some c := ⟨_, List.getElem?_eq_getElem (by omega)⟩
      obtain ⟨c1, hc1⟩ : ∃ c, w[2 * k + 1]? = some c := ⟨_, List.getElem?_eq_getElem (by omega)⟩
      rw [sbyte_bA (i := ((2 * k : Nat) : Int)) (by omega) (by rw [Int.toNat_natCast]; exact hc0), sbyte_bA (i := ((2 * k : Nat) : Int) + 1) (by omega) (by rw [show (((2 * k : Nat) : Int) + 1).toNat = 2 * k + 1 by omega]; exact hc1)]
      have cv : ∀ c : UInt8, ((c.toNat : Int)).toNat.toUInt8 = c := fun c => by simp
      rw [cv, cv]
      have hsp : ∀ a : ByteArray, w = spell a → ∃ hk : k < a.data.toList.length, c0 = hd1 (a.data.toList[k].toNat / 16) ∧ c1 = hd1 (a.data.toList[k].toNat % 16) := by
        rintro a rfl
        have hlen := flat_len a.data.toList
        have hka : k < a.data.toList.length := by
          have : 2 * k < (spell a).length := by omega
          unfold spell at this
          omega
        obtain ⟨g1, g2⟩ := flat_get a.data.toList k hka
        unfold spell at hc0 hc1
        rw [g1] at hc0
        rw [g2] at hc1
        exact ⟨hka, (Option.some.inj hc0).symm, (Option.some.inj hc1).symm⟩
      refine ifB_intro (fun hneg => bad_end true fun a rest ha hx => ?_) (fun hpos => ⟨by omega, by simp; omega, rfl, ⟨rfl, rfl, rfl, rfl, k + 1, by omega, by omega, by simp [rapp, hlk], ?_, ?_⟩, stepL (by show w.length - (((2 * k : Nat) : Int) + 2).toNat < w.length - (((2 * k : Nat) : Int)).toNat; omega)⟩)
      · obtain ⟨hwa, _, _⟩ := hw a rest hx
        obtain ⟨hka, rfl, rfl⟩ := hsp a hwa
        have := UInt8.toNat_lt a.data.toList[k]
        rw [hex_idx (by omega), hex_idx (by omega)] at hneg
        simp at hneg
        omega
      · intro r hr
        simp only [rapp, List.mem_append, List.mem_singleton] at hr
        rcases hr with hr | rfl
        · exact hby r hr
        · exact ⟨_, rfl, wcv8 _⟩
      · intro a hwa
        obtain ⟨hka, rfl, rfl⟩ := hsp a hwa
        have hlt := UInt8.toNat_lt a.data.toList[k]
        rw [hex_idx (by omega), hex_idx (by omega), hexPair _ hlt, hco a hwa]
        show uR _ ++ _ = uR _
        rw [List.take_add_one, List.getElem?_eq_getElem hka]
        simp
    · rw [slen_bA] at hge
      simp at hge
      have hk2 : w.length = 2 * k := by omega
      refine ⟨hby, _, ws', bad1, rfl, hn, ?_, hb, fun a rest ha hx => ?_⟩
      · simp [bstr, ByteArray.size, hlk]; omega
      · obtain ⟨hwa, h2, h3⟩ := hw a rest hx
        refine ⟨?_, h2, h3⟩
        rw [hco a hwa, bstr_uR]
        have : a.data.toList.length = k := by
          have := flat_len a.data.toList
          rw [hwa] at hk2
          unfold spell at hk2
          omega
        rw [← this, List.take_length, bA_of]
end Go.Proofs.YtknnooannohflaaDoor.Trm
