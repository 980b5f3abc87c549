/- Layer 7: the answers of the functions of packages names and wire, and of their references. -/
import Derived.Test.YtpgahnnbpfeldaaCodN
namespace Go.Proofs.Ytpgahnnbpfeldaa.Cod
open Go Go.Px Go.Proofs
set_option maxRecDepth 100000
set_option linter.unusedVariables false

theorem wrapU64 {a : Int} (h0 : 0 ≤ a) (h1 : a ≤ 18446744073709551615) : IntKind.u64.wrap a = a := by
  simp only [IntKind.wrap, IntKind.signed, IntKind.bits]
  simp
  omega
theorem wcvU64 {a : Int} (h0 : 0 ≤ a) (h1 : a ≤ 18446744073709551615) : wcv .u64 a = a := wrapU64 h0 h1
theorem wcvI64 {a : Int} (h0 : -9223372036854775808 ≤ a) (h1 : a ≤ 9223372036854775807) : wcv .i64 a = a := wrap_i64 h0 h1
theorem wcvU8 (a : Int) (h0 : 0 ≤ a) : wcv .u8 a = a % 256 := by
  simp only [wcv, IntKind.wrap, IntKind.signed, IntKind.bits]
  simp

theorem namB_eq (c : ByteArray) : nmB c = namB c := rfl

theorem clone_nR (rows : List (List SV)) (h : rows.length ≤ 2147483648) : Ct Try.prog 157 ⟨[], [.own]⟩ [SL 1 rows] (fun r => r = [SL 1 rows]) := by
  refine cloneS_nf _ _ (fun b hb => ifB_intro (fun e => ?_) (fun e => ⟨?_, ?_⟩))
  · have := hb e
    have : rows = [] := by simpa using this
    rw [this]
  · simp; omega
  · simp [rapp]
theorem clone_bR (rows : List (List SV)) (h : rows.length ≤ 2147483648) : Ct Try.prog 158 ⟨[], [.own]⟩ [SL 1 rows] (fun r => r = [SL 1 rows]) := by
  refine cloneB_nf _ _ (fun b hb => ifB_intro (fun e => ?_) (fun e => ⟨?_, ?_⟩))
  · have := hb e
    have : rows = [] := by simpa using this
    rw [this]
  · simp; omega
  · simp [rapp]

theorem shr7 {x : Int} (h : 0 ≤ x) : wshr .u64 x 7 = x / 128 := by
  simp only [wshr, IntKind.bits]
  simp
  exact Int.fdiv_eq_ediv_of_nonneg _ (by omega)

theorem or128 {x : Int} (h0 : 0 ≤ x) : wor .u8 (wcv .u8 x) 128 = x % 128 + 128 := by
  rw [wcvU8 x h0]
  have h1 : 0 ≤ x % 256 := by omega
  have h2 : x % 256 < 256 := by omega
  have h3 : x % 128 = (x % 256) % 128 := by omega
  rw [h3]
  generalize x % 256 = y at h1 h2
  obtain ⟨n, rfl⟩ : ∃ n : Nat, y = n := ⟨y.toNat, by omega⟩
  have hn : n < 256 := by omega
  clear h0 h3 h1 h2
  revert n
  decide

theorem putUint_fn (l : List Int) (n : Int) (h0 : 0 ≤ n) (h1 : n ≤ 18446744073709551615) (hl : l.length ≤ 100000) : Ct Try.prog 86 ⟨[], [.own]⟩ [SL 1 (bR l), U64 n] (fun r => r = [SL 1 (bR (l ++ leb n.toNat))]) := by
  refine putUint_nf _ _ _ (Cl.of (clone_bR _ (by simp; omega)) ⟨_, rfl, ?_⟩)
  refine ⟨fun rows x => ∃ l1 : List Int, rows = bR l1 ∧ 0 ≤ x ∧ x ≤ n ∧ l1.length + (leb x.toNat).length = l.length + (leb n.toNat).length ∧ l1 ++ leb x.toNat = l ++ leb n.toNat, fun _ x => x.toNat, ⟨l, rfl, h0, by omega, rfl, rfl⟩, ?_⟩
  rintro rows x ⟨l1, rfl, hx, hxn, hlen, he⟩
  have hb : (leb n.toNat).length ≤ 10 := leb_len 9 _ (by
    have : n.toNat < 18446744073709551616 := by omega
    exact Nat.lt_of_lt_of_le this (by decide))
  have hp := leb_pos x.toNat
  refine ifB_intro (fun h => ?_) (fun h => ?_)
  · simp at h
    have e := leb_ge (n := x.toNat) (by omega)
    have e2 : (x / 128).toNat = x.toNat / 128 := by omega
    refine ⟨by simp; omega, by omega, rfl, ?_, ?_⟩
    · rw [or128 hx, shr7 hx]
      refine ⟨l1 ++ [x % 128 + 128], by simp [rapp], by omega, by omega, ?_, ?_⟩
      · rw [e] at hlen; simp at hlen ⊢; rw [e2]; omega
      · rw [← he, e, e2]
        have : ((x.toNat % 128 + 128 : Nat) : Int) = x % 128 + 128 := by omega
        rw [this]; simp
    · rw [shr7 hx]
      exact mlt (by dsimp only; omega)
  · simp at h
    have e := leb_lt (n := x.toNat) (by omega)
    have e3 : wcv .u8 x = x := by rw [wcvU8 x hx]; omega
    refine ⟨by simp; omega, ?_⟩
    rw [e3, ← he, e]
    have : ((x.toNat : Nat) : Int) = x := by omega
    simp [rapp, this]

theorem rputUint_fn (l : List Int) (n : Int) (h0 : 0 ≤ n) (h1 : n ≤ 18446744073709551615) (hl : l.length ≤ 100000) : Ct Try.prog 89 ⟨[], [.own]⟩ [SL 1 (bR l), U64 n] (fun r => r = [SL 1 (bR (l ++ leb n.toNat))]) := by
  refine rputUint_nf _ _ _ ⟨by simp; omega, ?_⟩
  refine ⟨fun x _ rows => ∃ l1 : List Int, rows = bR l1 ∧ 0 ≤ x ∧ x ≤ n ∧ l1.length + (leb x.toNat).length = l.length + (leb n.toNat).length ∧ l1 ++ leb x.toNat = l ++ leb n.toNat, fun x _ _ => x.toNat, ⟨l, by simp [rapp], h0, by omega, rfl, rfl⟩, ?_⟩
  rintro x _ rows ⟨l1, rfl, hx, hxn, hlen, he⟩
  have hb : (leb n.toNat).length ≤ 10 := leb_len 9 _ (by
    have : n.toNat < 18446744073709551616 := by omega
    exact Nat.lt_of_lt_of_le this (by decide))
  have hp := leb_pos x.toNat
  have q : wquo .u64 x 128 = x / 128 := by
    unfold wquo
    rw [Int.tdiv_eq_ediv_of_nonneg hx, wrapU64 (by omega) (by omega)]
  have r : wcv .u8 (wrem x 128) = x % 128 := by
    unfold wrem
    rw [Int.tmod_eq_emod_of_nonneg hx, wcvU8 _ (by omega)]; omega
  have s : wadd .u8 (x % 128) 128 = x % 128 + 128 := by
    have := wcvU8 (x % 128 + 128) (by omega)
    simp only [wcv] at this
    rw [wadd, this]; omega
  rw [q, r, s]
  refine ⟨by omega, by omega, ifB_intro (fun h => ?_) (fun h => ?_)⟩
  · simp at h
    have e := leb_lt (n := x.toNat) (by omega)
    refine ⟨by simp; omega, ?_⟩
    rw [← he, e]
    have e4 : x % 128 = x := by omega
    have : ((x.toNat : Nat) : Int) = x := by omega
    simp [rapp, this, e4]
  · simp at h
    have e := leb_ge (n := x.toNat) (by omega)
    have e2 : (x / 128).toNat = x.toNat / 128 := by omega
    refine ⟨by simp; omega, rfl, ⟨l1 ++ [x % 128 + 128], by simp [rapp], by omega, by omega, ?_, ?_⟩, mlt (by dsimp only; omega)⟩
    · rw [e] at hlen; simp at hlen ⊢; rw [e2]; omega
    · rw [← he, e, e2]
      have : ((x.toNat % 128 + 128 : Nat) : Int) = x % 128 + 128 := by omega
      rw [this]; simp

/-- A text's bytes. -/
def txB (t : ByteArray) : List Int := t.data.toList.map fun b => (b.toNat : Int)
theorem sbytes_tx (t : ByteArray) : sbytes t = bR (txB t) := by
  simp only [sbytes, txB, bR, List.map_map]; rfl
theorem txB_len (t : ByteArray) : (txB t).length = t.size := by
  simp only [txB, List.length_map, Array.length_toList]; rfl
theorem txB_byte {t : ByteArray} : ∀ x ∈ txB t, 0 ≤ x ∧ x ≤ 255 := by
  intro x hx
  simp only [txB, List.mem_map] at hx
  obtain ⟨b, _, rfl⟩ := hx
  have := b.toNat_lt
  omega

theorem putText_fn (l : List Int) (t : ByteArray) (hl : l.length ≤ 100000 - 10) (ht : t.size ≤ 1000) : Ct Try.prog 87 ⟨[], [.own]⟩ [SL 1 (bR l), S t] (fun r => r = [SL 1 (bR (l ++ leb t.size ++ txB t))]) := by
  refine putText_nf _ _ _ ?_
  rw [slen_eq, wcvU64 (by omega) (by omega)]
  have hb : (leb t.size).length ≤ 2 := leb_len 1 _ (by omega)
  refine Cl.of (putUint_fn l t.size (by omega) (by omega) (by omega)) ⟨_, rfl, ?_, ?_⟩
  · rw [sbytes_tx]; simp [txB_len]; omega
  · rw [sbytes_tx]; simp [rapp]

theorem rputText_fn (l : List Int) (t : ByteArray) (hl : l.length ≤ 100000 - 10) (ht : t.size ≤ 1000) : Ct Try.prog 90 ⟨[], [.own]⟩ [SL 1 (bR l), S t] (fun r => r = [SL 1 (bR (l ++ leb t.size ++ txB t))]) := by
  refine rputText_nf _ _ _ ?_
  simp only [slen_eq]
  rw [wcvU64 (by omega) (by omega)]
  have hb : (leb t.size).length ≤ 2 := leb_len 1 _ (by omega)
  refine Cl.of (rputUint_fn l t.size (by omega) (by omega) (by omega)) ⟨_, rfl, ?_⟩
  refine ⟨fun rows x => 0 ≤ x ∧ x ≤ t.size ∧ rows = bR (l ++ leb t.size ++ (txB t).take x.toNat), fun _ x => (t.size - x).toNat, ⟨by omega, by omega, by simp⟩, ?_⟩
  rintro rows x ⟨h0, h1, rfl⟩
  refine ifB_intro (fun h => ?_) (fun h => ?_)
  · simp at h
    have w : wadd IntKind.i64 x 1 = x + 1 := wadd_i64 (by omega) (by omega)
    rw [w]
    have e : (txB t).take (x + 1).toNat = (txB t).take x.toNat ++ [sbyte t x] := by
      rw [show (x + 1).toNat = x.toNat + 1 by omega, List.take_add_one]
      have hx : x.toNat < (txB t).length := by rw [txB_len]; omega
      rw [List.getElem?_eq_getElem hx]
      have hx2 : x.toNat < t.data.size := by have : t.size = t.data.size := rfl; omega
      simp [txB, sbyte, Array.getElem?_eq_getElem hx2]
    refine ⟨⟨h0, h⟩, ?_, by simp, ⟨by omega, by omega, ?_⟩, mlt (by dsimp only; omega)⟩
    · simp [txB_len]; omega
    · rw [e]; simp [rapp]
  · simp at h
    have : (txB t).take x.toNat = txB t := List.take_of_length_le (by rw [txB_len]; omega)
    rw [this]

theorem places_fn (l : List ByteArray) (hl : l.length ≤ 1000000) : Ct Try.prog 156 ⟨[], [.own]⟩ [SL 1 (nR l)] (fun r => ∃ es, r = [.mapv es] ∧ Plcs l es) := by
  refine places_nf _ _ ⟨fun x es => 0 ≤ x ∧ x ≤ l.length ∧ Plcs (l.take x.toNat) es, fun x _ => (l.length - x).toNat, ⟨by omega, by omega, Plcs.nil⟩, ?_⟩
  rintro x es ⟨h0, h1, hp⟩
  refine ifB_intro (fun h => ?_) (fun h => ?_)
  · simp at h
    have w : wadd IntKind.i64 x 1 = x + 1 := wadd_i64 (by omega) (by omega)
    have ht : l.take (x + 1).toNat = l.take x.toNat ++ [nmAt l x] := by
      rw [show (x + 1).toNat = x.toNat + 1 by omega, take_snoc (by omega)]
      congr 3; omega
    refine ⟨⟨h0, by simpa using h⟩, _, rget_nR h0 h, ?_⟩
    rw [w]
    refine ifB_intro (fun hh => ⟨rfl, ⟨by omega, by omega, ?_⟩, mlt (by dsimp only; omega)⟩) (fun hh => ⟨rfl, ⟨by omega, by omega, ?_⟩, mlt (by dsimp only; omega)⟩)
    · simp at hh
      rw [ht]
      exact hp.new hh (by rw [List.length_take]; omega)
    · simp at hh
      rw [ht]
      exact hp.old hh
  · simp at h
    exact ⟨_, rfl, by rwa [List.take_of_length_le (by omega)] at hp⟩

theorem place_fn (l : List ByteArray) (t : ByteArray) (hl : l.length ≤ 1000000) : Ct Try.prog 84 {} [SL 1 (nR l), S t] (fun r => r = [I (plc l t)]) := by
  refine place_nf _ _ _ (Cl.ofQ (places_fn l hl) ?_)
  rintro r ⟨es, rfl, hp⟩
  exact ⟨_, rfl, by rw [hp.get]⟩

theorem nright1_fn (t : ByteArray) : Ct Try.prog 161 {} [S t] (fun r => r = [B (!namB t)]) :=
  nright1_nf _ _ (Cl.of (named_fn t) ⟨_, rfl, by simp⟩)

theorem contS_fn (l : List ByteArray) (hl : l.length ≤ 1000000) : Ct Try.prog 160 {} [SL 1 (nR l), .clo 161 []] (fun r => r = [B (!decide (∀ s ∈ l, namB s = true))]) := by
  have A : Ct Try.prog 185 {} [SL 1 (nR l), .clo 161 []] (fun r => ∃ x : Int, r = [I x] ∧ (0 ≤ x ↔ ¬ ∀ s ∈ l, namB s = true)) := by
    refine indexS_nf _ _ _ _ ⟨fun _ x => 0 ≤ x ∧ x ≤ l.length ∧ ∀ s ∈ l.take x.toNat, namB s = true, fun _ x => (l.length - x).toNat, ⟨by omega, by omega, by simp⟩, ?_⟩
    rintro _ x ⟨h0, h1, hp⟩
    refine ifB_intro (fun h => ?_) (fun h => ?_)
    · simp at h
      have w : wadd IntKind.i64 x 1 = x + 1 := wadd_i64 (by omega) (by omega)
      have ht : l.take (x + 1).toNat = l.take x.toNat ++ [nmAt l x] := by
        rw [show (x + 1).toNat = x.toNat + 1 by omega, take_snoc (by omega)]
        congr 3; omega
      refine ⟨⟨h0, by simpa using h⟩, _, rget_nR h0 h, Cl.of (nright1_fn _) ⟨_, rfl, ifB_intro (fun hb => ?_) (fun hb => ⟨rfl, ?_, ?_⟩)⟩⟩
      · simp at hb
        refine ⟨x, rfl, ⟨fun _ ha => ?_, fun _ => h0⟩⟩
        rw [ha _ (nmAt_mem h0 h)] at hb
        cases hb
      · simp at hb
        rw [w]
        refine ⟨by omega, by omega, fun s hs => ?_⟩
        rw [ht] at hs
        rcases List.mem_append.1 hs with hs | hs
        · exact hp s hs
        · simp at hs; rw [hs]; exact hb
      · rw [w]; exact mlt (by dsimp only; omega)
    · simp at h
      refine ⟨-1, rfl, ⟨fun h => by omega, fun hn => absurd ?_ hn⟩⟩
      rwa [List.take_of_length_le (by omega)] at hp
  refine contS_nf _ _ _ _ (Cl.ofQ A ?_)
  rintro r ⟨x, rfl, hx⟩
  refine ⟨_, rfl, ?_⟩
  have : ige x 0 = !decide (∀ s ∈ l, namB s = true) := by
    rw [Bool.eq_iff_iff]; simp [hx]
  rw [this]

theorem nright_fn (l : List ByteArray) : Ct Try.prog 91 {} [SL 1 (nR l)] (fun r => r = [B (rgtB l)]) := by
  refine nright_nf _ _ (ifB_intro (fun h => ?_) (fun h => ?_))
  · simp at h
    have : rgtB l = false := by unfold rgtB; rw [decide_eq_false_iff_not]; omega
    rw [this]
  · simp at h
    refine Cl.ofQ (places_fn l (by omega)) ?_
    rintro r ⟨es, rfl, hp⟩
    refine ⟨_, rfl, ifB_intro (fun hb => ?_) (fun hb => ?_)⟩
    · simp [mlen] at hb
      have : rgtB l = false := by
        unfold rgtB; rw [decide_eq_false_iff_not]
        rintro ⟨_, _, hn⟩
        have := hp.nd.2 hn
        omega
      rw [this]
    · simp [mlen] at hb
      have hn : l.Nodup := hp.nd.1 (by have := hp.le; omega)
      refine Cl.of (contS_fn l (by omega)) ⟨_, rfl, ?_⟩
      have : bnot (!decide (∀ s ∈ l, namB s = true)) = rgtB l := by
        rw [bnot_eq, Bool.not_not]
        unfold rgtB
        exact decide_eq_decide.2 ⟨fun hh => ⟨by omega, hh, hn⟩, fun hh => hh.2.1⟩
      rw [this]

theorem rnamed_fn (t : ByteArray) : Ct Try.prog 162 {} [S t] (fun r => r = [B (namB t)]) := by
  refine rnamed_nf _ _ ?_
  have : bpick (igt (slen t) 0) (ilt (slen t) 25) false = namB t := by
    rw [Bool.eq_iff_iff]; simp [namB]; omega
  rw [this]

theorem rplace_fn (l : List ByteArray) (t : ByteArray) (hl : l.length ≤ 1000000) : Ct Try.prog 35 {} [SL 1 (nR l), S t] (fun r => r = [I (plc l t)]) := by
  refine rplace_nf _ _ _ ⟨fun _ x => 0 ≤ x ∧ x ≤ l.length ∧ ∀ j : Nat, j < x.toNat → l[j]? ≠ some t, fun _ x => (l.length - x).toNat, ⟨by omega, by omega, by simp⟩, ?_⟩
  rintro _ x ⟨h0, h1, hp⟩
  refine ifB_intro (fun h => ?_) (fun h => ?_)
  · simp at h
    have w : wadd IntKind.i64 x 1 = x + 1 := wadd_i64 (by omega) (by omega)
    have e : l[x.toNat]? = some (nmAt l x) := by
      have := nmAt_some (l := l) (i := x.toNat) (by omega)
      rw [this]; congr 2; omega
    refine ⟨⟨h0, by simpa using h⟩, _, rget_nR h0 h, ?_⟩
    rw [w]
    refine ifB_intro (fun hb => ?_) (fun hb => ⟨rfl, ⟨by omega, by omega, fun j hj => ?_⟩, mlt (by dsimp only; omega)⟩)
    · rw [seq_d, decide_eq_true_eq] at hb
      have := plc_hit (hb ▸ e) hp
      rw [this]
      have : ((x.toNat + 1 : Nat) : Int) = x + 1 := by omega
      rw [this]
    · rw [seq_d, decide_eq_false_iff_not] at hb
      by_cases hjx : j < x.toNat
      · exact hp j hjx
      · obtain rfl : j = x.toNat := by omega
        rw [e]; simpa using hb
  · simp at h
    have : plc l t = 0 := by
      rw [plc_zero]
      intro hm
      obtain ⟨i, hi, he⟩ := List.getElem_of_mem hm
      exact hp i (by omega) (by rw [List.getElem?_eq_getElem hi, he])
    rw [this]; rfl

theorem rright_fn (l : List ByteArray) (hl : l.length ≤ 1000000) : Ct Try.prog 92 {} [SL 1 (nR l)] (fun r => r = [B (rgtB l)]) := by
  refine rright_nf _ _ ⟨fun _ x => 0 ≤ x ∧ x ≤ l.length ∧ x ≤ 32 ∧ ∀ (j : Nat) s, j < x.toNat → l[j]? = some s → namB s = true ∧ plc l s = j + 1, fun _ x => (l.length - x).toNat, ⟨by omega, by omega, by omega, by simp⟩, ?_⟩
  rintro _ x ⟨h0, h1, h32, hp⟩
  have no : (¬ (l.length ≤ 32 ∧ (∀ s ∈ l, nmB s = true) ∧ l.Nodup)) → [B false] = [B (rgtB l)] := fun hn => by
    have : rgtB l = false := by unfold rgtB; rw [decide_eq_false_iff_not]; exact hn
    rw [this]
  refine ifB_intro (fun h => ?_) (fun h => ?_)
  · simp at h
    have w : wadd IntKind.i64 x 1 = x + 1 := wadd_i64 (by omega) (by omega)
    have e : l[x.toNat]? = some (nmAt l x) := by
      have := nmAt_some (l := l) (i := x.toNat) (by omega)
      rw [this]; congr 2; omega
    refine ifB_intro (fun hb => ?_) (fun hb => ?_)
    · simp at hb
      exact no (by omega)
    · simp at hb
      refine ⟨⟨h0, by simpa using h⟩, _, rget_nR h0 h, Cl.of (rnamed_fn _) ⟨_, rfl, ifB_intro (fun hn => ?_) (fun hn => ?_)⟩⟩
      · simp at hn
        refine no (fun hh => ?_)
        have := hh.2.1 _ (nmAt_mem h0 h)
        rw [namB_eq, hn] at this
        cases this
      · simp at hn
        refine ⟨⟨h0, by simpa using h⟩, _, rget_nR h0 h, Cl.of (rplace_fn l _ hl) ⟨_, rfl, ?_⟩⟩
        rw [w]
        refine ifB_intro (fun hq => ?_) (fun hq => ⟨rfl, ⟨by omega, by omega, by omega, fun j s hj hs => ?_⟩, mlt (by dsimp only; omega)⟩)
        · simp at hq
          refine no (fun hh => ?_)
          have := plc_nodup hh.2.2 e
          omega
        · simp at hq
          by_cases hjx : j < x.toNat
          · exact hp j s hjx hs
          · obtain rfl : j = x.toNat := by omega
            rw [e] at hs
            cases hs
            exact ⟨hn, by omega⟩
  · simp at h
    have : rgtB l = true := by
      rw [rgtB_iff]
      refine ⟨by omega, fun s hs => ?_, nodup_of_plc (fun i s hi => ?_)⟩
      · obtain ⟨i, hi, he⟩ := List.getElem_of_mem hs
        exact (hp i s (by omega) (by rw [List.getElem?_eq_getElem hi, he])).1
      · exact (hp i s (by have := (List.getElem?_eq_some_iff.1 hi).1; omega) hi).2
    rw [this]

/-- A name is put behind the others: what there is then, and the error's number. -/
def putN (l : List ByteArray) (t : ByteArray) : List ByteArray × Int :=
  if rgtB l = false then (l, 1) else if namB t = false then (l, 3) else if 0 < plc l t then (l, 7) else if l.length = 32 then (l, 9) else (l ++ [t], 0)

theorem nput_fn (l : List ByteArray) (t : ByteArray) : Ct Try.prog 85 {} [SL 1 (nR l), S t] (fun r => r = [SL 1 (nR (putN l t).1), I (putN l t).2]) := by
  refine nput_nf _ _ _ (Cl.of (nright_fn l) ⟨_, rfl, ifB_intro (fun h => ?_) (fun h => ?_)⟩)
  · simp at h; simp [putN, h]
  · simp at h
    have hl := (rgtB_iff.1 h).1
    refine Cl.of (named_fn t) ⟨_, rfl, ifB_intro (fun h1 => ?_) (fun h1 => ?_)⟩
    · simp at h1; simp [putN, h, h1]
    · simp at h1
      refine Cl.of (place_fn l t (by omega)) ⟨_, rfl, ifB_intro (fun h2 => ?_) (fun h2 => ?_)⟩
      · simp at h2; simp [putN, h, h1, h2]
      · simp at h2
        refine ifB_intro (fun h3 => ?_) (fun h3 => ?_)
        · simp at h3
          have h3 : l.length = 32 := by omega
          simp [putN, h, h1, h2, h3]
        · simp at h3
          have h3 : ¬ l.length = 32 := by omega
          refine Cl.of (clone_nR _ (by simp; omega)) ⟨_, rfl, by simp; omega, ?_⟩
          simp [putN, h, h1, h2, h3, rapp]

theorem rput_fn (l : List ByteArray) (t : ByteArray) (hl : l.length ≤ 1000000) : Ct Try.prog 159 {} [SL 1 (nR l), S t] (fun r => r = [SL 1 (nR (putN l t).1), I (putN l t).2]) := by
  refine rput_nf _ _ _ (Cl.of (rright_fn l hl) ⟨_, rfl, ifB_intro (fun h => ?_) (fun h => ?_)⟩)
  · simp at h; simp [putN, h]
  · simp at h
    have hl := (rgtB_iff.1 h).1
    refine Cl.of (rnamed_fn t) ⟨_, rfl, ifB_intro (fun h1 => ?_) (fun h1 => ?_)⟩
    · simp at h1; simp [putN, h, h1]
    · simp at h1
      refine Cl.of (rplace_fn l t (by omega)) ⟨_, rfl, ifB_intro (fun h2 => ?_) (fun h2 => ?_)⟩
      · simp at h2; simp [putN, h, h1, h2]
      · simp at h2
        refine ifB_intro (fun h3 => ?_) (fun h3 => ?_)
        · simp at h3
          have h3 : l.length = 32 := by omega
          simp [putN, h, h1, h2, h3]
        · simp at h3
          have h3 : ¬ l.length = 32 := by omega
          refine ⟨by simp; omega, by simp [rapp]; omega, ?_⟩
          simp [putN, h, h1, h2, h3, rapp]

theorem rsame_fn (l m : List ByteArray) (hl : l.length ≤ 1000000) : Ct Try.prog 93 {} [SL 1 (nR l), SL 1 (nR m)] (fun r => r = [B (decide (l = m))]) := by
  have no : ¬ l = m → [B false] = [B (decide (l = m))] := fun hn => by simp [hn]
  refine rsame_nf _ _ _ (ifB_intro (fun h => ?_) (fun h => ?_))
  · simp at h
    exact no (fun e => by subst e; omega)
  · simp at h
    refine ⟨fun _ x => 0 ≤ x ∧ x ≤ l.length ∧ l.take x.toNat = m.take x.toNat, fun _ x => (l.length - x).toNat, ⟨by omega, by omega, by simp⟩, ?_⟩
    rintro _ x ⟨h0, h1, hp⟩
    refine ifB_intro (fun hx => ?_) (fun hx => ?_)
    · simp at hx
      have w : wadd IntKind.i64 x 1 = x + 1 := wadd_i64 (by omega) (by omega)
      have ht : ∀ l : List ByteArray, x < l.length → l.take (x + 1).toNat = l.take x.toNat ++ [nmAt l x] := fun l hl => by
        rw [show (x + 1).toNat = x.toNat + 1 by omega, take_snoc (by omega)]
        congr 3; omega
      refine ⟨⟨h0, by simpa using hx⟩, _, rget_nR h0 hx, ⟨h0, by simp; omega⟩, _, rget_nR h0 (by omega), ?_⟩
      rw [w, sne_d]
      refine ifB_intro (fun hb => ?_) (fun hb => ⟨rfl, ⟨by omega, by omega, ?_⟩, mlt (by dsimp only; omega)⟩)
      · simp at hb
        exact no (fun e => hb (by rw [e]))
      · simp at hb
        rw [ht l (by omega), ht m (by omega), hp, hb]
    · simp at hx
      have : l = m := by
        rw [List.take_of_length_le (by omega), List.take_of_length_le (by omega)] at hp
        exact hp
      simp [this]

theorem short_fn (l : List ByteArray) (hl : l.length ≤ 9223372036854775807) : Ct Try.prog 27 {} [SL 1 (nR l)] (fun r => ∃ b, r = [B b] ∧ (b = true → l.length ≤ 60)) := by
  refine short_nf _ _ ⟨fun _ x => 0 ≤ x ∧ x ≤ l.length, fun _ x => (l.length - x).toNat, ⟨by omega, by omega⟩, ?_⟩
  rintro _ x ⟨h0, h1⟩
  refine ifB_intro (fun h => ?_) (fun h => ?_)
  · simp at h
    have w : wadd IntKind.i64 x 1 = x + 1 := wadd_i64 (by omega) (by omega)
    refine ⟨⟨h0, by simpa using h⟩, _, rget_nR h0 h, ?_⟩
    rw [w]
    exact ifB_intro (fun hb => ⟨_, rfl, fun e => by cases e⟩) (fun hb => ⟨rfl, ⟨by omega, by omega⟩, mlt (by dsimp only; omega)⟩)
  · refine ⟨_, rfl, fun e => ?_⟩
    simp at e
    omega

theorem nat_fn (l : List ByteArray) (p : Int) (h0 : -1000 ≤ p) (h1 : p ≤ 1000) : Ct Try.prog 166 {} [SL 1 (nR l), I p] (fun r => r = (if 1 ≤ p ∧ p ≤ l.length then [S (nmAt l (p - 1)), I 0] else [S (ByteArray.mk (Array.mk [])), I 14])) := by
  refine nat_nf _ _ _ (ifB_intro (fun h => ?_) (fun h => ?_))
  · simp at h
    rw [if_neg (by omega)]
  · simp at h
    have w : wsub IntKind.i64 p 1 = p - 1 := wsub_i64 (by omega) (by omega)
    rw [w, if_pos (by omega)]
    exact ⟨⟨by omega, by simp; omega⟩, _, rget_nR (by omega) (by omega), rfl⟩

theorem clip_fn (rows : List (List SV)) : Ct Try.prog 83 {} [SL 1 rows] (fun r => r = [SL 1 rows]) := by
  refine clip_nf _ _ ⟨by simp, ?_⟩
  simp [rsub]

def ctxB (cs ca : Int) (l : List ByteArray) : Bool := decide (0 ≤ cs ∧ cs ≤ 4294967296 ∧ 0 ≤ ca ∧ ca ≤ 1099511627776) && rgtB l

theorem cright_eq (cs ca : Int) (l : List ByteArray) {f : FuncId} (hf : Ct Try.prog f {} [SL 1 (nR l)] (fun r => r = [B (rgtB l)])) : ifB (bpick (bpick (bpick (ige cs 0) (ile cs 4294967296) false) (ige ca 0) false) (ile ca 1099511627776) false) (Cl Try.prog f sP [SL 1 (nR l)] (fun (rs : List SV) => ∃ b : Bool, (rs = [B b]) ∧ ([B (bpick true b false)] = [B (ctxB cs ca l)]))) ([B false] = [B (ctxB cs ca l)]) := by
  refine ifB_intro (fun h => ?_) (fun h => ?_)
  · simp at h
    refine Cl.of hf ⟨_, rfl, ?_⟩
    have : decide (0 ≤ cs ∧ cs ≤ 4294967296 ∧ 0 ≤ ca ∧ ca ≤ 1099511627776) = true := by simp; omega
    simp [ctxB, this]
  · simp at h
    have : decide (0 ≤ cs ∧ cs ≤ 4294967296 ∧ 0 ≤ ca ∧ ca ≤ 1099511627776) = false := by rw [decide_eq_false_iff_not]; omega
    simp [ctxB, this]

theorem cright_fn (cs ca : Int) (l : List ByteArray) : Ct Try.prog 30 {} [cx3 cs ca (nR l)] (fun r => r = [B (ctxB cs ca l)]) := cright_nf _ _ _ _ (cright_eq cs ca l (nright_fn l))
theorem crright_fn (cs ca : Int) (l : List ByteArray) (hl : l.length ≤ 1000000) : Ct Try.prog 31 {} [cx3 cs ca (nR l)] (fun r => r = [B (ctxB cs ca l)]) := crright_nf _ _ _ _ (cright_eq cs ca l (rright_fn l hl))

theorem csame_fn (cs ca : Int) (l : List ByteArray) (cs2 ca2 : Int) (m : List ByteArray) (hl : l.length ≤ 1000000) : Ct Try.prog 32 {} [cx3 cs ca (nR l), cx3 cs2 ca2 (nR m)] (fun r => r = [B (decide (cs = cs2 ∧ ca = ca2 ∧ l = m))]) := by
  refine csame_nf _ _ _ _ _ _ _ (ifB_intro (fun h => ?_) (fun h => ?_))
  · simp at h
    refine Cl.of (rsame_fn l m hl) ⟨_, rfl, ?_⟩
    simp [h]
  · simp at h
    have : ¬ (cs = cs2 ∧ ca = ca2 ∧ l = m) := fun e => h e.1 e.2.1
    simp [this]

end Go.Proofs.Ytpgahnnbpfeldaa.Cod
