/- Layer 22: the reference's text of a filter. -/
import Derived.Test.YtknnooannohflaaDoorTrmH
namespace Go.Proofs.YtknnooannohflaaDoor.Trm
open Go Go.Px Go.Proofs
set_option maxRecDepth 100000
set_option linter.unusedVariables false

theorem scat_bA (a b : Tx) : scat (bA a) (bA b) = bA (a ++ b) := by
  apply bA_ext.2
  unfold scat
  rw [ByteArray.data_append, Array.toList_append]
theorem bstr_1 (c : UInt8) : bstr [[U8 (c.toNat : Int)]] = bA [c] := bstr_uR [c]
theorem bstr_2 (c d : UInt8) : bstr [[U8 (c.toNat : Int)], [U8 (d.toNat : Int)]] = bA [c, d] := bstr_uR [c, d]
theorem isBytes_1 (c : UInt8) : isBytes [[U8 (c.toNat : Int)]] := fun r hr => by
  simp at hr; subst hr
  have := UInt8.toNat_lt c
  exact ⟨_, rfl, by omega, by omega⟩
theorem isBytes_2 (c d : UInt8) : isBytes [[U8 (c.toNat : Int)], [U8 (d.toNat : Int)]] := fun r hr => by
  have := UInt8.toNat_lt c
  have := UInt8.toNat_lt d
  simp at hr
  rcases hr with rfl | rfl
  · exact ⟨_, rfl, by omega, by omega⟩
  · exact ⟨_, rfl, by omega, by omega⟩

theorem wadd8 {a b : Int} (h0 : 0 ≤ a + b) (h1 : a + b < 256) : wadd .u8 a b = a + b := by
  have : wadd .u8 a b = (a + b) % 256 := by simp [wadd, IntKind.wrap, IntKind.bits, IntKind.signed]
  omega
theorem wsub8 {a b : Int} (h0 : 0 ≤ a - b) (h1 : a - b < 256) : wsub .u8 a b = a - b := by
  have : wsub .u8 a b = (a - b) % 256 := by simp [wsub, IntKind.wrap, IntKind.bits, IntKind.signed]
  omega
theorem wcv8_id {a : Int} (h0 : 0 ≤ a) (h1 : a < 256) : wcv .u8 a = a := by
  have : wcv .u8 a = a % 256 := by simp [wcv, IntKind.wrap, IntKind.bits, IntKind.signed]
  omega
theorem wrem10 (u : Nat) : wrem (u : Int) 10 = ((u % 10 : Nat) : Int) := by
  show (u : Int).tmod 10 = _
  rw [Int.tmod_eq_emod_of_nonneg (by omega)]; omega
theorem wquo10 (u : Nat) (h : u ≤ 9223372036854775807) : wquo .i64 (u : Int) 10 = ((u / 10 : Nat) : Int) := by
  show IntKind.i64.wrap ((u : Int).tdiv 10) = _
  rw [Int.tdiv_eq_ediv_of_nonneg (by omega), wrap_i64 (by omega) (by omega)]; omega

theorem Num_fn {n : Int} (h0 : 0 ≤ n) (h1 : n ≤ 1099511627776) : Ct Tryd.prog 41 {} [I n] (fun r => r = [S (bA (Lib.itoa n))]) := by
  obtain ⟨N, rfl⟩ : ∃ N : Nat, n = N := ⟨n.toNat, by omega⟩
  rw [Lib.itoa_nonneg]
  have hlen : (Lib.decDigits N).length ≤ 21 := by
    have := Lib.itoa_length_le (N : Int) (by omega) (by omega)
    rwa [Lib.itoa_nonneg] at this
  refine rnum_nf _ _ ⟨fun s x _ => ∃ (u : Nat) (l : Tx), x = u ∧ u ≤ N ∧ s = bA l ∧ Lib.decDigits N = Lib.decDigits u ++ l, fun _ x _ => x.toNat, ⟨N, [], rfl, Nat.le_refl _, rfl, by simp⟩, ?_⟩
  rintro _ _ s1 ⟨u, l, rfl, hu, rfl, hd⟩
  have hll : l.length ≤ 21 := by
    have := congrArg List.length hd
    rw [List.length_append] at this; omega
  have hdg : wadd .u8 48 (wcv .u8 (wrem (u : Int) 10)) = ((UInt8.ofNat (48 + u % 10)).toNat : Int) := by
    rw [wrem10, wcv8_id (by omega) (by omega), wadd8 (by omega) (by omega), digN _ (by omega)]; omega
  rw [hdg, bstr_1, scat_bA, wquo10 u (by omega)]
  refine ⟨by omega, isBytes_1 _, by rw [slen_bA, slen_bA]; simp; omega, by omega, ifB_intro (fun h => ?_) (fun h => ⟨rfl, ⟨u / 10, _, rfl, by omega, rfl, ?_⟩, stepL ?_⟩)⟩
  · simp at h
    rw [hd, Lib.decDigits, dif_pos (by omega), Nat.mod_eq_of_lt (by omega)]
  · simp at h
    rw [hd, Lib.decDigits, dif_neg (by omega)]
    simp
  · simp at h
    show ((u / 10 : Nat) : Int).toNat < ((u : Nat) : Int).toNat
    omega

theorem digit_fn {n : Nat} (h : n < 16) : Ct Tryd.prog 42 {} [U8 (n : Int)] (fun r => r = [U8 ((hd1 n).toNat : Int)]) := by
  rw [hd1_toNat h]
  refine rdigit_nf _ _ (ifB_intro (fun hc => ?_) (fun hc => ?_))
  · simp at hc
    rw [if_pos (by omega), wadd8 (by omega) (by omega)]
    simp
  · simp at hc
    rw [if_neg (by omega), wadd8 (by omega) (by omega), wsub8 (by omega) (by omega)]
    have : (97 : Int) + n - 10 = ((87 + n : Nat) : Int) := by omega
    rw [this]

theorem slen_mk (l : Tx) : slen (ByteArray.mk (Array.mk l)) = l.length := slen_bA l
theorem sbyte_u (s : ByteArray) (i : Nat) (h : i < s.data.toList.length) : sbyte s (i : Int) = ((s.data.toList[i]).toNat : Int) := by
  have := sbyte_bA (w := s.data.toList) (i := (i : Int)) (c := s.data.toList[i]) (by omega) (by simp)
  rwa [bA_of] at this
theorem size_len (s : ByteArray) : s.size = s.data.toList.length := by rw [Array.length_toList]; rfl
theorem wq16 (c : UInt8) : wquo .u8 (c.toNat : Int) 16 = ((c.toNat / 16 : Nat) : Int) := by
  have := UInt8.toNat_lt c
  show IntKind.u8.wrap ((c.toNat : Int).tdiv 16) = _
  have e : IntKind.u8.wrap ((c.toNat : Int).tdiv 16) = ((c.toNat : Int).tdiv 16) % 256 := by simp [IntKind.wrap, IntKind.bits, IntKind.signed]
  rw [e, Int.tdiv_eq_ediv_of_nonneg (by omega)]; omega
theorem wr16 (c : UInt8) : wrem (c.toNat : Int) 16 = ((c.toNat % 16 : Nat) : Int) := by
  show (c.toNat : Int).tmod 16 = _
  rw [Int.tmod_eq_emod_of_nonneg (by omega)]; omega

theorem rPrint_fn : ∀ f : FlD, okA f → cnt f ≤ 1000 → Ct Tryd.prog 16 {} [f.sv] (fun r => r = [S (bA (tx f))]) := by
  refine FlD.ind fun op a b nm ks ih hok hc => ?_
  rw [okA] at hok
  have hk := hok.1
  rw [cnt] at hc
  have hcl := cntL_len ks
  have htx : tx (.mk op a b nm ks) = jn (hdW op a b nm ks.length ++ wdsL ks) := by rw [tx, wds]
  have leaf : ¬ (op = 6 ∨ op = 7 ∨ op = 8) → tx (.mk op a b nm ks) = jn (hdW op a b nm ks.length) := fun h => by
    have : ks.length = 0 := by unfold OkOne at hk; omega
    have : ks = [] := List.eq_nil_of_length_eq_zero this
    subst this; rw [htx, wdsL, List.append_nil]
  have il : ∀ x : Int, 0 ≤ x → x ≤ 1099511627776 → (Lib.itoa x).length ≤ 21 := fun x h0 h1 => Lib.itoa_length_le x (by omega) (by omega)
  rw [mk_sv]
  refine rprint_nf _ _ _ _ _ _ ⟨fun s => s = bA (jn (hdW op a b nm ks.length)), fun _ => 0, ?_, ?_⟩
  · refine ifB_intro (fun h => ?_) (fun h1 => ifB_intro (fun h => ?_) (fun h2 => ifB_intro (fun h => ?_) (fun h3 => ifB_intro (fun h => ?_) (fun h4 => ifB_intro (fun h => ?_) (fun h5 => ifB_intro (fun h => ?_) (fun h6 => ifB_intro (fun h => ?_) (fun h7 => ⟨rfl, ?_⟩)))))))
    · simp at h; subst h
      rw [leaf (by omega)]
      rfl
    · simp at h; subst h
      unfold OkOne at hk
      have l1 := il a (by omega) (by omega)
      have l2 := il b (by omega) (by omega)
      refine Cl.of (Num_fn (by omega) (by omega)) ⟨_, rfl, ?_⟩
      show _ ≤ _ ∧ (lsum (slen (scat (bA _) (bA _))) (slen (bA _)) ≤ _ ∧ _)
      rw [scat_bA]
      refine ⟨by rw [slen_mk, slen_bA]; simp; omega, by rw [slen_bA, slen_bA]; simp; omega, Cl.of (Num_fn (by omega) (by omega)) ⟨_, rfl, ?_⟩⟩
      show lsum (slen (scat (bA _) (bA _))) (slen (bA _)) ≤ _ ∧ [S (scat (scat (bA _) (bA _)) (bA _))] = _
      rw [scat_bA, scat_bA]
      refine ⟨by rw [slen_bA, slen_bA]; simp; omega, ?_⟩
      rw [leaf (by omega)]
      simp [hdW, jn_cons, jn_one, tTime]
    · simp at h; subst h
      unfold OkOne at hk
      have l1 := il a (by omega) (by omega)
      have l2 := il b (by omega) (by omega)
      refine Cl.of (Num_fn (by omega) (by omega)) ⟨_, rfl, ?_⟩
      show _ ≤ _ ∧ (lsum (slen (scat (bA _) (bA _))) (slen (bA _)) ≤ _ ∧ _)
      rw [scat_bA]
      refine ⟨by rw [slen_mk, slen_bA]; simp; omega, by rw [slen_bA, slen_bA]; simp; omega, Cl.of (Num_fn (by omega) (by omega)) ⟨_, rfl, ?_⟩⟩
      show lsum (slen (scat (bA _) (bA _))) (slen (bA _)) ≤ _ ∧ [S (scat (scat (bA _) (bA _)) (bA _))] = _
      rw [scat_bA, scat_bA]
      refine ⟨by rw [slen_bA, slen_bA]; simp; omega, ?_⟩
      rw [leaf (by omega)]
      simp [hdW, jn_cons, jn_one, tSeq]
    · simp at h; subst h
      unfold OkOne at hk
      have hsz : nm.size ≤ 24 := by omega
      have hsl := size_len nm
      refine ⟨fun s x => ∃ i : Nat, x = i ∧ i ≤ nm.size ∧ s = bA ((nm.data.toList.take i).flatMap hx), fun _ x => nm.size - x.toNat, ⟨0, rfl, by omega, rfl⟩, ?_⟩
      rintro _ _ ⟨i, rfl, hi, rfl⟩
      refine ifB_intro (fun hlt => ?_) (fun hge => ?_)
      · simp at hlt
        have hl : i < nm.data.toList.length := by omega
        rw [sbyte_u nm i hl, wq16, wr16]
        have h256 := UInt8.toNat_lt (nm.data.toList[i])
        refine ⟨by simp; omega, by omega, by simp; omega, by omega, Cl.of (digit_fn (by omega)) ⟨_, rfl, Cl.of (digit_fn (by omega)) ⟨_, rfl, isBytes_2 _ _, ?_, rfl, ?_⟩⟩⟩
        · rw [bstr_2, slen_bA, slen_bA, flat_len]; simp; omega
        · rw [bstr_2, scat_bA, waddN i (by omega)]
          refine ⟨⟨i + 1, rfl, by omega, ?_⟩, stepL (by simp; omega)⟩
          rw [List.take_add_one, List.getElem?_eq_getElem hl, List.flatMap_append]
          simp [hx]
      · simp at hge
        have : i = nm.data.toList.length := by omega
        subst this
        rw [List.take_length]
        refine ⟨by rw [slen_mk, slen_bA, flat_len]; simp; omega, ?_⟩
        show [S (scat (bA _) (bA _))] = _
        rw [scat_bA, leaf (by omega)]
        simp [hdW, jn_cons, jn_one, tComp, Trm.spell]
    · simp at h; subst h
      unfold OkOne at hk
      have l1 := il a (by omega) (by omega)
      refine Cl.of (Num_fn (by omega) (by omega)) ⟨_, rfl, by rw [slen_mk, slen_bA]; simp; omega, ?_⟩
      show [S (scat (bA _) (bA _))] = _
      rw [scat_bA, leaf (by omega)]
      simp [hdW, jn_cons, jn_one, tKind]
    · simp at h; subst h
      rw [rlen_eq, List.length_map]
      have l1 := il ks.length (by omega) (by omega)
      refine Cl.of (Num_fn (by omega) (by omega)) ⟨_, rfl, by rw [slen_mk, slen_bA]; simp; omega, rfl, ?_⟩
      show scat (bA _) (bA _) = _
      rw [scat_bA]
      simp [hdW, jn_cons, jn_one, tAnd]
    · simp at h; subst h
      rw [rlen_eq, List.length_map]
      have l1 := il ks.length (by omega) (by omega)
      refine Cl.of (Num_fn (by omega) (by omega)) ⟨_, rfl, by rw [slen_mk, slen_bA]; simp; omega, rfl, ?_⟩
      show scat (bA _) (bA _) = _
      rw [scat_bA]
      simp [hdW, jn_cons, jn_one, tOr]
    · simp at h1 h2 h3 h4 h5 h6 h7
      have : op = 8 := by unfold OkOne at hk; omega
      subst this
      simp [hdW, jn_one, tNot]
  · rintro _ rfl
    have hhl := (hdW_len hk (by omega)).2
    refine ⟨fun s x => ∃ i : Nat, x = i ∧ i ≤ ks.length ∧ s = bA (jn (hdW op a b nm ks.length ++ wdsL (ks.take i))), fun _ x => ks.length - x.toNat, ⟨0, rfl, by omega, by simp [wdsL]⟩, ?_⟩
    rintro _ _ ⟨i, rfl, hi, rfl⟩
    refine ifB_intro (fun hlt => ?_) (fun hge => ?_)
    · simp at hlt
      obtain ⟨op', a', b', nm', ks', e1, e2⟩ := kid_get ks i hlt
      have hm := List.getElem_mem hlt
      have q1 := cntL_mem hm
      have q2 := cntL_snoc ks i hlt
      have q3 := cntL_take_le ks (i + 1)
      have q4 := (wdsL_len (ks.take i) ((okL_iff _).2 fun x hx => (okL_iff _).1 hok.2 x (List.mem_of_mem_take hx)) (by omega)).2
      have q5 := jn_len (hdW op a b nm ks.length ++ wdsL (ks.take i))
      rw [List.map_append, List.sum_append] at q5
      have hok' := (okL_iff _).1 hok.2 _ hm
      have q6 := (wds_len _ hok' (by omega)).2
      have q7 := jn_len (wds ks[i])
      have hk2 := ih _ hm hok' (by omega)
      have htk : tx ks[i] = jn (wds ks[i]) := rfl
      rw [e1, mk_sv] at hk2
      refine ⟨by rw [slen_bA, slen_mk]; simp; omega, by simp; omega, _, _, _, _, _, e2, Cl.of hk2 ⟨_, rfl, ?_⟩⟩
      show lsum (slen (scat (bA _) (bA _))) (slen (bA _)) ≤ _ ∧ _
      rw [← e1, htk, scat_bA]
      refine ⟨by rw [slen_bA, slen_bA]; simp; omega, rfl, ?_⟩
      rw [scat_bA, waddN i (by omega)]
      refine ⟨⟨i + 1, rfl, by omega, ?_⟩, stepL (by simp; omega)⟩
      rw [wdsL_snoc ks i hlt, ← List.append_assoc, jn_app (a := hdW op a b nm ks.length ++ wdsL (ks.take i)) (fun h => hdW_ne _ _ _ _ _ (List.append_eq_nil_iff.1 h).1) (wds_ne _)]
      simp
    · simp at hge
      have : i = ks.length := by omega
      subst this
      rw [List.take_length, htx]
end Go.Proofs.YtknnooannohflaaDoor.Trm
