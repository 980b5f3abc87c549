/- Layer 7: the law CodecRight over plain data. -/
import Derived.Test.YtpgahnnbpfeldaaCod8
namespace Go.Proofs.Ytpgahnnbpfeldaa.Cod
open Go Go.Px Go.Proofs
set_option maxRecDepth 100000
set_option linter.unusedVariables false

theorem DOut.shape {cs ca : Int} {l : List ByteArray} {b : List Int} {r : List SV} (h : DOut cs ca l b r) : ∃ (e : EvD) (s a : Int) (m : List ByteArray) (n : Int), r = [e.sv, cx3 s a (nR m), I n] ∧ m.length ≤ l.length + 1 := by
  rcases h with ⟨_, rfl⟩ | ⟨_, ⟨e, _, _, rfl⟩ | ⟨_, rfl⟩⟩
  · exact ⟨⟨0, 0, 0, ByteArray.mk (Array.mk []), 0, 0, 0⟩, _, _, _, _, rfl, by omega⟩
  · refine ⟨e, _, _, _, _, rfl, ?_⟩
    unfold bhdN; split <;> simp
  · exact ⟨⟨0, 0, 0, ByteArray.mk (Array.mk []), 0, 0, 0⟩, _, _, _, _, rfl, by omega⟩

theorem DOut.eq {cs ca : Int} {l : List ByteArray} {b : List Int} {r r' : List SV} (h : DOut cs ca l b r) (h' : DOut cs ca l b r') : r = r' := by
  rcases h with ⟨h1, rfl⟩ | ⟨h1, ⟨e, h2, h3, rfl⟩ | ⟨h2, rfl⟩⟩ <;> rcases h' with ⟨g1, rfl⟩ | ⟨g1, ⟨e', g2, g3, rfl⟩ | ⟨g2, rfl⟩⟩
  · rfl
  · rw [h1] at g1; cases g1
  · rw [h1] at g1; cases g1
  · rw [h1] at g1; cases g1
  · obtain ⟨rfl, _⟩ := enc_inj (r := []) (r' := []) h2 g2 (by rw [h3, g3])
    rfl
  · exact absurd h3 (g2 e h2)
  · rw [h1] at g1; cases g1
  · exact absurd g3 (h2 e' g2)
  · rfl

/-- Bytes of an event that may follow are read as it was. -/
theorem DOut.own {cs ca : Int} {l : List ByteArray} {e : EvD} {r : List SV} (ok : EncOK cs ca l e) (h : DOut cs ca l (encL cs ca l e) r) : r = [e.sv, cx3 e.s e.a (nR (bhdN l e.c)), I 0] :=
  h.eq (.inr ⟨ok.ctx, .inl ⟨e, ok, rfl, rfl⟩⟩)

def eA : EvD := ⟨1, 5, 4, ByteArray.mk (Array.mk [100, 98]), 1, 0, 0⟩

theorem okA : EncOK 0 0 [] eA := ⟨by decide, by decide, by decide, by decide, fun _ => by decide⟩
theorem encA : encL 0 0 [] eA = [4, 1, 5, 0, 2, 100, 98, 1] := by
  have e1 : leb (4 : Int).toNat = [4] := leb_lt (by decide)
  have e2 : leb (1 - 0 : Int).toNat = [1] := leb_lt (by decide)
  have e3 : leb (5 - 0 : Int).toNat = [5] := leb_lt (by decide)
  have e4 : leb 0 = [0] := leb_lt (by decide)
  have e5 : leb 2 = [2] := leb_lt (by decide)
  have e6 : leb (1 : Int).toNat = [1] := leb_lt (by decide)
  have hp : plc [] eA.c = 0 := rfl
  have ht : txB eA.c = [100, 98] := rfl
  have hn : numI eA.k eA.x eA.y eA.z = [1] := rfl
  have hs : eA.c.size = 2 := rfl
  unfold encL numB
  rw [hp, if_pos rfl, ht, hn, hs]
  show leb (4 : Int).toNat ++ leb (1 - 0 : Int).toNat ++ leb (5 - 0 : Int).toNat ++ leb 0 ++ (leb 2 ++ [100, 98]) ++ List.flatMap (fun n => leb n.toNat) [(1 : Int)] = _
  rw [e1, e2, e3, e4, e5]
  simp only [List.flatMap_cons, List.flatMap_nil]
  rw [e6]
  rfl

theorem cawake_fn : Ct Try.prog 26 {} [] (fun r => r = [B true]) := by
  have he := encode_fn 0 0 [] eA
  unfold encR at he
  rw [if_pos (encE_zero.2 okA)] at he
  refine cawake_nf _ (Cl.of he ⟨_, _, _, _, _, rfl, ?_⟩)
  refine Cl.ofQ (decode_fn 0 0 [] _ (by rw [encA]; decide) byts_enc) ?_
  intro r hr
  have := hr.own okA
  subst this
  refine ⟨_, _, _, _, _, _, _, _, _, _, _, rfl, isBytes_bR byts_enc, ?_⟩
  have hb : bstr (bR (encL 0 0 [] eA)) = ByteArray.mk (Array.mk [4, 1, 5, 0, 2, 100, 98, 1]) := by rw [encA]; rfl
  rw [hb]
  refine ifB_intro (fun _ => ?_) (fun h => by simp [eA, bhdN, plc] at h)
  refine Cl.of (cright_fn eA.s eA.a _) ⟨_, rfl, ?_⟩
  have : ctxB eA.s eA.a (bhdN [] eA.c) = true := by decide
  rw [this]
  rfl

theorem bhdN_len (l : List ByteArray) (c : ByteArray) : (bhdN l c).length ≤ l.length + 1 := by unfold bhdN; split <;> simp

theorem law5_fn (cs ca : Int) (l : List ByteArray) (e : EvD) (b : List Int) (hl : l.length ≤ 9223372036854775807) (hb : Byts b) : Ct Try.prog 5 {} [cx3 cs ca (nR l), e.sv, SL 1 (bR b)] (fun r => r = [B true]) := by
  refine law5_nf _ _ _ _ _ _ _ _ _ _ _ _ (Cl.of cawake_fn ⟨_, rfl, ifB_intro (fun h => by simp at h) (fun _ => ?_)⟩)
  refine Cl.ofQ (short_fn l hl) ?_
  rintro r ⟨b1, rfl, hb1⟩
  refine ⟨_, rfl, ifB_intro (fun _ => rfl) (fun h => ?_)⟩
  simp only [bor_f, bnot_eq, Bool.not_eq_false', igt_eq, decide_eq_false_iff_not, rlen_bR] at h
  have hl60 := hb1 h.1.1
  have he := encode_fn cs ca l e
  have hre := rencode_fn cs ca l e (by omega)
  -- the second half
  have D : Cl Try.prog 33 sP ([SV.agg [I cs, I ca, SL 1 (nR l)], SL 1 (bR b)]) (fun (rs7 : List SV) => ∃ x7 : Int, ∃ x8 : Int, ∃ x9 : Int, ∃ s1 : ByteArray, ∃ x10 : Int, ∃ x11 : Int, ∃ x12 : Int, ∃ x13 : Int, ∃ x14 : Int, ∃ l4 : List (List SV), ∃ x15 : Int, (rs7 = [SV.agg [I x7, I x8, I x9, S s1, I x10, I x11, I x12], SV.agg [I x13, I x14, SL 1 l4], I x15]) ∧ (Cl Try.prog 34 sP ([SV.agg [I cs, I ca, SL 1 (nR l)], SL 1 (bR b)]) (fun (rs8 : List SV) => ∃ x16 : Int, ∃ x17 : Int, ∃ x18 : Int, ∃ s2 : ByteArray, ∃ x19 : Int, ∃ x20 : Int, ∃ x21 : Int, ∃ x22 : Int, ∃ x23 : Int, ∃ l5 : List (List SV), ∃ x24 : Int, (rs8 = [SV.agg [I x16, I x17, I x18, S s2, I x19, I x20, I x21], SV.agg [I x22, I x23, SL 1 l5], I x24]) ∧ (ifB (bpick (band (ieq x7 x16) (band (ieq x8 x17) (band (ieq x9 x18) (band (seq s1 s2) (band (ieq x10 x19) (band (ieq x11 x20) (band (ieq x12 x21) true))))))) (ieq x15 x24) false) (Cl Try.prog 32 sP ([SV.agg [I x13, I x14, SL 1 l4], SV.agg [I x22, I x23, SL 1 l5]]) (fun (rs9 : List SV) => ∃ b5 : Bool, (rs9 = [B b5]) ∧ ([B (bpick true b5 false)] = [B true]))) ([B false] = [B true]))))) := by
    refine Cl.ofQ (decode_fn cs ca l b (by omega) hb) ?_
    intro r hr
    obtain ⟨e1, s1, a1, m1, n1, er, hm⟩ := hr.shape
    refine ⟨_, _, _, _, _, _, _, _, _, _, _, er, ?_⟩
    refine Cl.ofQ (rdecode_fn cs ca l b (by omega) hb (by omega)) ?_
    intro r' hr'
    have hrr := hr.eq hr'
    rw [← hrr, er]
    refine ⟨_, _, _, _, _, _, _, _, _, _, _, rfl, ifB_intro (fun _ => ?_) (fun h => by simp at h)⟩
    refine Cl.of (csame_fn s1 a1 m1 s1 a1 m1 (by omega)) ⟨_, rfl, by simp⟩
  by_cases hE : encE cs ca l e = 0
  · unfold encR at he hre
    rw [if_pos hE] at he hre
    refine Cl.of he ⟨_, _, _, _, _, rfl, Cl.of hre ⟨_, _, _, _, _, rfl, ?_⟩⟩
    refine Cl.of (cright_fn cs ca l) ⟨_, rfl, Cl.of (crright_fn cs ca l (by omega)) ⟨_, rfl, ifB_intro (fun h => by simp at h) (fun _ => ?_)⟩⟩
    refine ⟨isBytes_bR byts_enc, isBytes_bR byts_enc, ifB_intro (fun h => by simp at h) (fun _ => ?_)⟩
    have := bhdN_len l e.c
    refine Cl.of (csame_fn e.s e.a (bhdN l e.c) e.s e.a (bhdN l e.c) (by omega)) ⟨_, rfl, ifB_intro (fun h => by simp at h) (fun _ => D)⟩
  · unfold encR at he hre
    rw [if_neg hE] at he hre
    refine Cl.of he ⟨_, _, _, _, _, rfl, Cl.of hre ⟨_, _, _, _, _, rfl, ?_⟩⟩
    refine Cl.of (cright_fn cs ca l) ⟨_, rfl, Cl.of (crright_fn cs ca l (by omega)) ⟨_, rfl, ifB_intro (fun h => by simp at h) (fun _ => ?_)⟩⟩
    have hnil : isBytes [] := fun r hr => by cases hr
    refine ⟨hnil, hnil, ifB_intro (fun h => by simp at h) (fun _ => ?_)⟩
    refine Cl.of (csame_fn cs ca l cs ca l (by omega)) ⟨_, rfl, ifB_intro (fun h => by simp at h) (fun _ => D)⟩

end Go.Proofs.Ytpgahnnbpfeldaa.Cod
