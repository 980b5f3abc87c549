/- Layer 7: the law CodecBack over plain data. -/
import Derived.Test.YtpgahnnbpfeldaaCodN4
namespace Go.Proofs.Ytpgahnnbpfeldaa.Cod
open Go Go.Px Go.Proofs
set_option maxRecDepth 100000
set_option linter.unusedVariables false

theorem bhd_right {cs ca : Int} {l : List ByteArray} {e : EvD} (ok : EncOK cs ca l e) : ctxB e.s e.a (bhdN l e.c) = true := by
  obtain ⟨c1, c2, c3, c4, c5⟩ := chkE_zero ok.chk
  have hr := rgtB_iff.1 (ctxB_iff.1 ok.ctx).2
  refine ctxB_iff.2 ⟨by omega, rgtB_iff.2 ⟨bhd_small ok, ?_, ?_⟩⟩
  · intro s hs
    unfold bhdN at hs
    split at hs
    · rcases List.mem_append.1 hs with hs | hs
      · exact hr.2.1 s hs
      · simp at hs; subst hs; simp [nmB]; omega
    · exact hr.2.1 s hs
  · unfold bhdN
    split
    · rename_i hp
      rw [List.nodup_append]
      refine ⟨hr.2.2, by simp, fun x hx y hy => ?_⟩
      simp at hy
      subst hy
      intro e'
      subst e'
      exact plc_zero.1 hp hx
    · exact hr.2.2

theorem law6_fn (cs ca : Int) (l : List ByteArray) (e : EvD) (b : List Int) (cut : Int) (mb : List Int) (hl : l.length ≤ 9223372036854775807) (hb : Byts b) (hc0 : 0 ≤ cut) (hc1 : cut ≤ 255) (hm : Byts mb) :
    Ct Try.prog 6 {} [cx3 cs ca (nR l), e.sv, SL 1 (bR b), U8 cut, SL 1 (bR mb)] (fun r => r = [B true]) := by
  refine law6_nf _ _ _ _ _ _ _ _ _ _ _ _ _ _ (Cl.of cawake_fn ⟨_, rfl, ifB_intro (fun h => by simp at h) (fun _ => ?_)⟩)
  refine Cl.ofQ (short_fn l hl) ?_
  rintro r ⟨b1, rfl, hb1⟩
  refine ⟨_, rfl, ifB_intro (fun _ => rfl) (fun h => ?_)⟩
  simp only [bor_f, bnot_eq, Bool.not_eq_false', igt_eq, decide_eq_false_iff_not, rlen_bR] at h
  obtain ⟨⟨⟨h1, _⟩, h2⟩, h3⟩ := h
  have hl60 := hb1 h1
  -- bytes are read
  have TAIL : Cl Try.prog 33 sP ([SV.agg [I cs, I ca, SL 1 (nR l)], SL 1 (bR b)]) (fun (rs4 : List SV) => ∃ x15 : Int, ∃ x16 : Int, ∃ x17 : Int, ∃ s2 : ByteArray, ∃ x18 : Int, ∃ x19 : Int, ∃ x20 : Int, ∃ x21 : Int, ∃ x22 : Int, ∃ l3 : List (List SV), ∃ x23 : Int, (rs4 = [SV.agg [I x15, I x16, I x17, S s2, I x18, I x19, I x20], SV.agg [I x21, I x22, SL 1 l3], I x23]) ∧ (ifB (ine x23 0) (ifB (band (ieq x15 0) (band (ieq x16 0) (band (ieq x17 0) (band (seq s2 (ByteArray.mk (Array.mk []))) (band (ieq x18 0) (band (ieq x19 0) (band (ieq x20 0) true))))))) (Cl Try.prog 32 sP ([SV.agg [I x21, I x22, SL 1 l3], SV.agg [I cs, I ca, SL 1 (nR l)]]) (fun (rs5 : List SV) => ∃ b3 : Bool, (rs5 = [B b3]) ∧ ([B (bpick true b3 false)] = [B true]))) ([B false] = [B true])) (Cl Try.prog 28 sP ([SV.agg [I cs, I ca, SL 1 (nR l)], SV.agg [I x15, I x16, I x17, S s2, I x18, I x19, I x20]]) (fun (rs5 : List SV) => ∃ l4 : List (List SV), ∃ x24 : Int, ∃ x25 : Int, ∃ l5 : List (List SV), ∃ x26 : Int, (rs5 = [SL 1 l4, SV.agg [I x24, I x25, SL 1 l5], I x26]) ∧ (ifB (ieq x26 0) ((isBytes l4) ∧ ((isBytes (bR b)) ∧ (ifB (bpick true (seq (bstr l4) (bstr (bR b))) false) (Cl Try.prog 32 sP ([SV.agg [I x24, I x25, SL 1 l5], SV.agg [I x21, I x22, SL 1 l3]]) (fun (rs6 : List SV) => ∃ b3 : Bool, (rs6 = [B b3]) ∧ ([B (bpick true b3 false)] = [B true]))) ([B false] = [B true])))) ([B false] = [B true])))))) := by
    refine Cl.ofQ (decode_fn cs ca l b (by omega) hb) ?_
    have bad : ∀ n : Int, n ≠ 0 → ifB (ine n 0) (ifB (band (ieq 0 0) (band (ieq 0 0) (band (ieq 0 0) (band (seq (ByteArray.mk (Array.mk [])) (ByteArray.mk (Array.mk []))) (band (ieq 0 0) (band (ieq 0 0) (band (ieq 0 0) true))))))) (Cl Try.prog 32 sP ([SV.agg [I cs, I ca, SL 1 (nR l)], SV.agg [I cs, I ca, SL 1 (nR l)]]) (fun (rs5 : List SV) => ∃ b3 : Bool, (rs5 = [B b3]) ∧ ([B (bpick true b3 false)] = [B true]))) ([B false] = [B true])) (Cl Try.prog 28 sP ([SV.agg [I cs, I ca, SL 1 (nR l)], SV.agg [I 0, I 0, I 0, S (ByteArray.mk (Array.mk [])), I 0, I 0, I 0]]) (fun (rs5 : List SV) => ∃ l4 : List (List SV), ∃ x24 : Int, ∃ x25 : Int, ∃ l5 : List (List SV), ∃ x26 : Int, (rs5 = [SL 1 l4, SV.agg [I x24, I x25, SL 1 l5], I x26]) ∧ (ifB (ieq x26 0) ((isBytes l4) ∧ ((isBytes (bR b)) ∧ (ifB (bpick true (seq (bstr l4) (bstr (bR b))) false) (Cl Try.prog 32 sP ([SV.agg [I x24, I x25, SL 1 l5], SV.agg [I cs, I ca, SL 1 (nR l)]]) (fun (rs6 : List SV) => ∃ b3 : Bool, (rs6 = [B b3]) ∧ ([B (bpick true b3 false)] = [B true]))) ([B false] = [B true])))) ([B false] = [B true])))) := by
      intro n hn
      refine ifB_intro (fun _ => ifB_intro (fun _ => ?_) (fun h => by simp at h)) (fun h => by simp at h; exact absurd h hn)
      exact Cl.of (csame_fn cs ca l cs ca l (by omega)) ⟨_, rfl, by simp⟩
    rintro r (⟨_, rfl⟩ | ⟨_, ⟨e', ok', hbe, rfl⟩ | ⟨_, rfl⟩⟩)
    · exact ⟨_, _, _, _, _, _, _, _, _, _, _, rfl, bad 1 (by omega)⟩
    · refine ⟨_, _, _, _, _, _, _, _, _, _, _, rfl, ifB_intro (fun h => by simp at h) (fun _ => ?_)⟩
      have he := encode_fn cs ca l e'
      unfold encR at he
      rw [if_pos (encE_zero.2 ok')] at he
      refine Cl.of he ⟨_, _, _, _, _, rfl, ifB_intro (fun _ => ⟨isBytes_bR byts_enc, isBytes_bR hb, ifB_intro (fun _ => ?_) (fun h => ?_)⟩) (fun h => by simp at h)⟩
      · have := bhdN_len l e'.c
        exact Cl.of (csame_fn e'.s e'.a (bhdN l e'.c) e'.s e'.a (bhdN l e'.c) (by omega)) ⟨_, rfl, by simp⟩
      · rw [hbe] at h
        simp at h
    · exact ⟨_, _, _, _, _, _, _, _, _, _, _, rfl, bad 11 (by omega)⟩
  have he := encode_fn cs ca l e
  by_cases hE : encE cs ca l e = 0
  · have ok := encE_zero.1 hE
    unfold encR at he
    rw [if_pos hE] at he
    have hcap := enc_cap ok
    have hpos : 1 ≤ (encL cs ca l e).length := by
      have := leb_pos e.k.toNat
      unfold encL
      simp only [List.length_append]
      omega
    have hbl := bhdN_len l e.c
    refine Cl.of he ⟨_, _, _, _, _, rfl, ifB_intro (fun _ => ?_) (fun h => by simp at h)⟩
    refine Cl.ofQ (decode_fn cs ca l _ (by omega) byts_enc) ?_
    intro r hr
    have := hr.own ok
    subst this
    refine ⟨_, _, _, _, _, _, _, _, _, _, _, rfl, fun b2 => b2 = false, fun _ => 0, ?_, ?_⟩
    · refine ifB_intro (fun h => by simp at h) (fun _ => ?_)
      refine Cl.of (csame_fn e.s e.a (bhdN l e.c) e.s e.a (bhdN l e.c) (by omega)) ⟨_, rfl, ifB_intro (fun h => by simp at h) (fun _ => ?_)⟩
      refine Cl.of (cright_fn e.s e.a (bhdN l e.c)) ⟨_, rfl, rfl, ?_⟩
      rw [bhd_right ok]
      simp
      intro hn
      rw [hn] at hpos
      simp at hpos
    · rintro b2 rfl
      refine ifB_intro (fun h => by simp at h) (fun _ => ?_)
      have hw : wrem (wcv IntKind.i64 cut) (rlen (bR (encL cs ca l e))) = cut % (encL cs ca l e).length := by
        rw [wcvI64 (by omega) (by omega), rlen_bR, wrem, Int.tmod_eq_emod_of_nonneg hc0]
      have hn0 : 0 ≤ cut % ((encL cs ca l e).length : Int) := Int.emod_nonneg _ (by omega)
      have hn1 : cut % ((encL cs ca l e).length : Int) < (encL cs ca l e).length := Int.emod_lt_of_pos _ (by omega)
      rw [hw]
      generalize cut % ((encL cs ca l e).length : Int) = n at hn0 hn1
      have hsub : rsub (bR (encL cs ca l e)) 0 n = bR ((encL cs ca l e).take n.toNat) := by rw [rsub_bR]; simp
      rw [hsub]
      have D10 : ∀ (R : Int → Prop), R 11 → Cl Try.prog 33 sP ([SV.agg [I cs, I ca, SL 1 (nR l)], SL 1 (bR ((encL cs ca l e).take n.toNat))]) (fun (rs4 : List SV) => ∃ x13 : Int, ∃ x14 : Int, ∃ x15 : Int, ∃ s2 : ByteArray, ∃ x16 : Int, ∃ x17 : Int, ∃ x18 : Int, ∃ x19 : Int, ∃ x20 : Int, ∃ l3 : List (List SV), ∃ x21 : Int, (rs4 = [SV.agg [I x13, I x14, I x15, S s2, I x16, I x17, I x18], SV.agg [I x19, I x20, SL 1 l3], I x21]) ∧ R x21) := by
        intro R hR
        refine Cl.ofQ (decode_fn cs ca l _ (by rw [List.length_take]; omega) (byts_enc.sub fun x hx => List.mem_of_mem_take hx)) ?_
        rintro r (⟨hc, rfl⟩ | ⟨_, ⟨e', ok', hbe, rfl⟩ | ⟨_, rfl⟩⟩)
        · rw [ok.ctx] at hc; cases hc
        · exfalso
          have hh : encL cs ca l e' ++ (encL cs ca l e).drop n.toNat = encL cs ca l e ++ [] := by
            rw [hbe, List.take_append_drop]; simp
          have := congrArg List.length (enc_inj ok' ok hh).2
          simp at this
          omega
        · exact ⟨_, _, _, _, _, _, _, _, _, _, _, rfl, hR⟩
      refine ⟨fun n => n = 11, fun _ => 0, ?_, ?_⟩
      · refine ⟨fun h => ?_, ⟨by omega, hn0, by rw [rlen_bR]; omega⟩, ?_⟩
        · rw [rlen_bR] at h; omega
        · repeat' (first | exact D10 (fun x21 => (_ ∧ x21 = 11) ∧ (_ ∧ x21 = 11)) ⟨⟨rfl, rfl⟩, ⟨rfl, rfl⟩⟩ | exact D10 (fun x21 => _ ∧ x21 = 11) ⟨rfl, rfl⟩ | refine And.intro ?_ ?_)
      · rintro x13 rfl
        have happ : rapp (rapp [] (bR (encL cs ca l e))) (bR mb) = bR (encL cs ca l e ++ mb) := by simp [rapp]
        have happ0 : rapp [] (bR (encL cs ca l e)) = bR (encL cs ca l e) := by simp [rapp]
        have D11 : ∀ (R : Int → Prop), (∀ n : Int, (n = 0 ↔ mb = []) → R n) → Cl Try.prog 33 sP ([SV.agg [I cs, I ca, SL 1 (nR l)], SL 1 (rapp (rapp [] (bR (encL cs ca l e))) (bR mb))]) (fun (rs4 : List SV) => ∃ x14 : Int, ∃ x15 : Int, ∃ x16 : Int, ∃ s2 : ByteArray, ∃ x17 : Int, ∃ x18 : Int, ∃ x19 : Int, ∃ x20 : Int, ∃ x21 : Int, ∃ l3 : List (List SV), ∃ x22 : Int, (rs4 = [SV.agg [I x14, I x15, I x16, S s2, I x17, I x18, I x19], SV.agg [I x20, I x21, SL 1 l3], I x22]) ∧ R x22) := by
          intro R hR
          rw [happ]
          refine Cl.ofQ (decode_fn cs ca l _ (by rw [List.length_append]; omega) (byts_enc.app hm)) ?_
          rintro r (⟨hc, rfl⟩ | ⟨_, ⟨e', ok', hbe, rfl⟩ | ⟨hno, rfl⟩⟩)
          · rw [ok.ctx] at hc; cases hc
          · have hh : encL cs ca l e' ++ [] = encL cs ca l e ++ mb := by rw [hbe]; simp
            have := (enc_inj ok' ok hh).2
            exact ⟨_, _, _, _, _, _, _, _, _, _, _, rfl, hR 0 ⟨fun _ => this.symm, fun _ => rfl⟩⟩
          · refine ⟨_, _, _, _, _, _, _, _, _, _, _, rfl, hR 11 ⟨fun h => by omega, fun h => ?_⟩⟩
            subst h
            exact absurd (by simp) (hno e ok)
        have a1 : lsum (rlen []) (rlen (bR (encL cs ca l e))) ≤ (2147483648 : Int) := by simp; omega
        have a2 : lsum (rlen (rapp [] (bR (encL cs ca l e)))) (rlen (bR mb)) ≤ (2147483648 : Int) := by rw [happ0]; simp; omega
        refine ⟨fun n => n = 0 ↔ mb = [], fun _ => 0, ?_, ?_⟩
        · repeat' (first | exact a1 | exact a2 | exact D11 (fun x22 => (_ ∧ (x22 = 0 ↔ mb = [])) ∧ (_ ∧ (x22 = 0 ↔ mb = []))) (fun n h => ⟨⟨rfl, h⟩, ⟨rfl, h⟩⟩) | exact D11 (fun x22 => _ ∧ (x22 = 0 ↔ mb = [])) (fun n h => ⟨rfl, h⟩) | refine And.intro ?_ ?_)
        · intro x14 h14
          refine ifB_intro (fun h => ?_) (fun _ => TAIL)
          have e1 : (ieq x14 0) = (ieq (rlen (bR mb)) 0) := by
            rw [Bool.eq_iff_iff]; simp [h14]
          rw [e1] at h
          simp at h
  · unfold encR at he
    rw [if_neg hE] at he
    exact Cl.of he ⟨_, _, _, _, _, rfl, ifB_intro (fun h => by simp at h; exact absurd h hE) (fun _ => TAIL)⟩

end Go.Proofs.Ytpgahnnbpfeldaa.Cod
