/- Layer 22: the reference's filter of a text; the laws. -/
import Derived.Test.YtknnooannohflaaDoorTrmJ
import Derived.Test.YtknnooannohflaaDoorTrmN2
namespace Go.Proofs.YtknnooannohflaaDoor.Trm
open Go Go.Px Go.Proofs
set_option maxRecDepth 100000
set_option linter.unusedVariables false

/-- What the reference's Parse tells of a text. -/
def PbR (s : ByteArray) (r : List SV) : Prop :=
  ∃ (f : FlD) (b : Bool), r = [f.sv, B b] ∧ ((b = true ∧ Rgt f ∧ s = bA (tx f)) ∨ (b = false ∧ f = zeroF ∧ ∀ f0, Rgt f0 → s ≠ bA (tx f0)))

theorem spl_len : ∀ l : Tx, (spl l).length ≤ l.length + 1
  | [] => by simp [spl]
  | c :: r => by
    have := spl_len r
    rw [spl]
    split
    · simp; omega
    · split
      · simp
      · rename_i e; rw [e] at this; simp at this ⊢; omega
theorem spl_mem : ∀ (l : Tx), ∀ w ∈ spl l, w.length ≤ l.length
  | [], w, h => by simp [spl] at h; subst h; simp
  | c :: r, w, h => by
    have ih := spl_mem r
    rw [spl] at h
    split at h
    · rcases List.mem_cons.1 h with rfl | h
      · simp
      · have := ih w h; simp; omega
    · split at h
      · simp at h; subst h; simp
      · rename_i v vs e
        rw [e] at ih
        rcases List.mem_cons.1 h with rfl | h
        · have := ih v (by simp); simp; omega
        · have := ih w (by simp [h]); simp; omega

theorem zero_end (s : ByteArray) (h : ∀ f0, Rgt f0 → s ≠ bA (tx f0)) : PbR s [SV.agg ([I ((0 : Int)), I ((0 : Int)), I ((0 : Int)), S (ByteArray.mk (Array.mk [])), SL 5 []]), B false] :=
  ⟨zeroF, false, by rw [sv_zero], .inr ⟨rfl, rfl, h⟩⟩

theorem rParse_fn (s : ByteArray) (hs : s.size ≤ 100000) : Ct Tryd.prog 18 {} [S s] (PbR s) := by
  obtain ⟨T, hT⟩ : ∃ T : Tx, s.data.toList = T := ⟨_, rfl⟩
  have hsb : s = bA T := by rw [← hT, bA_of]
  have hlen : T.length ≤ 100000 := by rw [← hT, Array.length_toList]; exact hs
  rw [hsb]
  refine rParse_nf _ _ ⟨fun l at_ i => (∃ (k a : Nat) (ws : List Tx), i = k ∧ at_ = a ∧ a ≤ k ∧ k ≤ T.length ∧ l = nR ws ∧ ws.length ≤ a ∧ 32 ∉ (T.take k).drop a ∧ spl T = ws ++ spl (T.drop a)) ∨ (i = ((T.length + 1 : Nat) : Int) ∧ l = nR (spl T)),
    fun _ _ i => T.length + 2 - i.toNat, .inl ⟨0, 0, [], rfl, rfl, by omega, by omega, rfl, by simp, by simp, by simp⟩, ?_⟩
  rintro l at_ i hI
  rw [slen_bA]
  refine ifB_intro (fun hle => ?_) (fun hgt => ?_)
  · simp at hle
    rcases hI with ⟨k, a, ws, rfl, rfl, hak, hk, rfl, hwl, hno, hsp⟩ | ⟨rfl, _⟩
    · have hdr : T.drop a = (T.take k).drop a ++ T.drop k := by
        conv => lhs; rw [← List.take_append_drop k T]
        rw [List.drop_append_of_le_length (by rw [List.length_take]; omega)]
      have e1 : ssub (bA T) (a : Int) (k : Int) = bA ((T.take k).drop a) := by rw [ssub_bA, Int.toNat_natCast, Int.toNat_natCast]
      rw [e1, waddN k (by omega)]
      have big : lsum (rlen (nR ws)) (rlen [[S (bA ((T.take k).drop a))]]) ≤ 2147483648 := by simp; omega
      refine ifB_intro (fun he => ⟨by omega, big, rfl, .inr ⟨?_, ?_⟩, stepL ?_⟩) (fun hne => ⟨by simp at hne; omega, ?_⟩)
      · simp at he; omega
      · simp at he
        have hkl : k = T.length := by omega
        rw [hkl, List.drop_length, List.append_nil] at hdr
        rw [hkl] at hno ⊢
        rw [hsp, hdr, spl_last _ hno]
        exact rapp_nR ws [_]
      · show T.length + 2 - ((k + 1 : Nat) : Int).toNat < T.length + 2 - ((k : Nat) : Int).toNat
        omega
      · simp at hne
        have hkl : k < T.length := by omega
        have hdk : T.drop k = T[k] :: T.drop (k + 1) := List.drop_eq_getElem_cons hkl
        rw [sbyte_bA (i := (k : Int)) (c := T[k]) (by omega) (by simp [hkl])]
        refine ifB_intro (fun hc => ⟨by omega, big, rfl, .inl ⟨k + 1, k + 1, ws ++ [(T.take k).drop a], rfl, rfl, by omega, by omega, rapp_nR ws [_], by simp; omega, by rw [List.drop_eq_nil_of_le (by rw [List.length_take]; omega)]; simp, ?_⟩, stepL ?_⟩)
          (fun hc => ⟨rfl, .inl ⟨k + 1, a, ws, rfl, rfl, by omega, by omega, rfl, hwl, ?_, hsp⟩, stepL ?_⟩)
        · simp at hc
          have : T[k] = 32 := UInt8.toNat_inj.1 (by simpa using (by omega : T[k].toNat = 32))
          rw [hsp, hdr, hdk, this, spl_word _ _ hno]
          simp
        · show T.length + 2 - ((k + 1 : Nat) : Int).toNat < T.length + 2 - ((k : Nat) : Int).toNat
          omega
        · simp at hc
          rw [List.take_add_one, List.getElem?_eq_getElem hkl, List.drop_append_of_le_length (by rw [List.length_take]; omega)]
          intro hm
          rcases List.mem_append.1 hm with hm | hm
          · exact hno hm
          · simp at hm
            rw [← hm] at hc
            exact hc rfl
        · show T.length + 2 - ((k + 1 : Nat) : Int).toNat < T.length + 2 - ((k : Nat) : Int).toNat
          omega
    · omega
  · simp at hgt
    have hl : l = nR (spl T) := by
      rcases hI with ⟨k, a, ws, rfl, rfl, hak, hk, rfl, hwl, hno, hsp⟩ | ⟨_, h⟩
      · omega
      · exact h
    subst hl
    refine Cl.ofQ (rparse_fn 16 (by omega) (spl T) 64 (fun x hx => Nat.le_trans (spl_mem T x hx) hlen) (by have := spl_len T; omega) (by omega) (by omega)) ?_
    rintro r ⟨op, a, b, nm, ks, ws', ok, n', rfl, hsm, hnm, hks, _, _, _, hC⟩
    have key : ∀ f0, Rgt f0 → bA T = bA (tx f0) → f0 = .mk op a b nm ks ∧ ws' = [] ∧ ok = true := fun f0 hr e => by
      obtain ⟨q1, q2, q3, _⟩ := hC f0 [] ⟨hr.1, by have := hr.2.2; omega, by have := hr.2.1; omega, by have := tx_spl hr.1 e; rwa [bA_list] at this⟩
      exact ⟨q1, q2, q3⟩
    have hsf : smF (.mk op a b nm ks) := by rw [smF]; exact ⟨by omega, by omega, hsm⟩
    have hR := rRight_fn _ hsf
    have hP := fun (h : Rgt (.mk op a b nm ks)) => rPrint_fn _ h.1 (by have := h.2.1; omega)
    rw [mk_sv] at hR hP
    refine ⟨_, _, _, _, _, _, _, _, rfl, ifB_intro (fun hb => ?_) (fun hb => Cl.of hR ⟨_, rfl, ifB_intro (fun h1 => ?_) (fun h1 => ?_)⟩)⟩
    · refine zero_end _ fun f0 hr e => ?_
      obtain ⟨_, rfl, rfl⟩ := key f0 hr e
      simp at hb
    · refine zero_end _ fun f0 hr e => ?_
      obtain ⟨q1, _⟩ := key f0 hr e
      rw [← q1, dB_t hr] at h1
      simp at h1
    · have hr1 : Rgt (.mk op a b nm ks) := dB_iff.1 (by simpa only [bnot_eq, Bool.not_eq_false'] using h1)
      refine Cl.of (hP hr1) ⟨_, rfl, ifB_intro (fun hc => zero_end _ fun f0 hr e => ?_) (fun hc => ?_)⟩
      · obtain ⟨q1, _⟩ := key f0 hr e
        rw [sne_d, ← q1, e] at hc
        simp at hc
      · rw [sne_d] at hc
        simp only [Bool.not_eq_false', decide_eq_true_eq] at hc
        exact ⟨_, true, by rw [mk_sv], .inl ⟨rfl, hr1, hc.symm⟩⟩

/- The fixed answers. -/
theorem itoa1 (n : Nat) (h : n < 10) : Lib.itoa (n : Int) = [UInt8.ofNat (48 + n)] := by rw [Lib.itoa_nonneg, Lib.decDigits_one h]
theorem itoa2 (n : Nat) (h1 : ¬ n < 10) (h2 : n < 100) : Lib.itoa (n : Int) = [UInt8.ofNat (48 + n / 10), UInt8.ofNat (48 + n % 10)] := by rw [Lib.itoa_nonneg, Lib.decDigits_two h1 h2]

def aw1 : FlD := .mk 6 0 0 (bA []) [.mk 4 0 0 (bA [100, 98]) [], .mk 8 0 0 (bA []) [.mk 5 4 0 (bA []) []]]
def aw2 : FlD := .mk 7 0 0 (bA []) [.mk 2 0 9 (bA []) [], .mk 3 12 3 (bA []) []]
theorem sz0 : (bA []).size = 0 := rfl
theorem sz2 (a b : UInt8) : (bA [a, b]).size = 2 := rfl
theorem aw1_ok : Rgt aw1 := by
  refine ⟨?_, by decide, by decide⟩
  simp [aw1, okA, okL, OkOne, sz0, sz2]
theorem aw2_ok : Rgt aw2 := by
  refine ⟨?_, by decide, by decide⟩
  simp [aw2, okA, okL, OkOne, sz0]
theorem aw1_tx : tx aw1 = [97, 110, 100, 32, 50, 32, 99, 111, 109, 112, 32, 54, 52, 54, 50, 32, 110, 111, 116, 32, 107, 105, 110, 100, 32, 52] := by
  have e2 : Lib.itoa 2 = [50] := itoa1 2 (by omega)
  have e4 : Lib.itoa 4 = [52] := itoa1 4 (by omega)
  have es : Trm.spell (bA [100, 98]) = [54, 52, 54, 50] := by decide
  simp [tx, aw1, wds, wdsL, hdW, e2, e4, es, jn_cons, jn_one, tAnd, tComp, tNot, tKind]
theorem aw2_tx : tx aw2 = [111, 114, 32, 50, 32, 116, 105, 109, 101, 32, 48, 32, 57, 32, 115, 101, 113, 32, 49, 50, 32, 51] := by
  have e2 : Lib.itoa 2 = [50] := itoa1 2 (by omega)
  have e0 : Lib.itoa 0 = [48] := itoa1 0 (by omega)
  have e9 : Lib.itoa 9 = [57] := itoa1 9 (by omega)
  have e3 : Lib.itoa 3 = [51] := itoa1 3 (by omega)
  have e12 : Lib.itoa 12 = [49, 50] := itoa2 12 (by omega) (by omega)
  simp [tx, aw2, wds, wdsL, hdW, e2, e0, e9, e3, e12, jn_cons, jn_one, tOr, tTime, tSeq]

theorem aw3 : ∀ f0, Rgt f0 → bA [116, 105, 109, 101, 32, 48, 48, 32, 57] ≠ bA (tx f0) := fun f0 hr e => by
  have h1 := tx_spl hr.1 e
  have h2 : spl (bA [116, 105, 109, 101, 32, 48, 48, 32, 57]).data.toList = [tTime, [48, 48], [57]] := by decide
  rw [h2] at h1
  obtain ⟨_, q2, q3, _⟩ := fw_time hr.1 h1
  have q4 : ([48, 48] : Tx) = Lib.itoa f0.a := (List.cons.inj q2).1
  have q5 : f0.a = 0 := by
    have := congrArg vDec q4
    rw [itoa_pos q3.1, vDec_dec] at this
    have h0 : vDec [48, 48] = 0 := by decide
    omega
  have e0 : Lib.itoa 0 = [48] := itoa1 0 (by omega)
  rw [q5, e0] at q4
  simp at q4

theorem awake_fn : Ct Tryd.prog 12 {} [] (fun r => r = [B true]) := by
  have s1 : smF aw1 := sm_ok aw1 aw1_ok.1 (by decide)
  have h1 := Print_fn aw1 s1
  have e1 : aw1.sv = .agg ([I 6, I ((0 : Int)), I ((0 : Int)), S (ByteArray.mk (Array.mk [])), SV.slice 5 ([[I 4, I ((0 : Int)), I ((0 : Int)), S (ByteArray.mk (Array.mk [100, 98])), SL 5 []], [I 8, I ((0 : Int)), I ((0 : Int)), S (ByteArray.mk (Array.mk [])), SL 5 ([[I 5, I 4, I ((0 : Int)), S (ByteArray.mk (Array.mk [])), SV.slice 5 [] 0]])]]) 0]) := by
    simp only [FlD.sv, aw1, FlD.row, rowsF]
  rw [e1] at h1
  refine tawake_nf _ (Cl.ofQ h1 ?_)
  rintro r (⟨_, rfl⟩ | ⟨h, _⟩)
  · refine ⟨_, _, rfl, Cl.ofQ (Parse_fn _ (by decide)) ?_⟩
    rintro r ⟨g, e, rfl, ⟨rfl, hg, hs⟩ | ⟨_, _, hno⟩⟩
    · have hg2 : tx g = tx aw2 := by
        rw [aw2_tx]
        exact bA_inj.1 hs.symm
      obtain rfl := tx_inj hg.1 aw2_ok.1 hg2
      have e2 : aw2.sv = .agg [I 7, I 0, I 0, S (bA []), SL 5 [[I 2, I 0, I 9, S (bA []), SL 5 []], [I 3, I 12, I 3, S (bA []), SL 5 []]]] := by
        simp only [FlD.sv, aw2, FlD.row, rowsF]
      rw [e2]
      refine ⟨_, _, _, _, _, _, rfl, Cl.ofQ (Parse_fn _ (by decide)) ?_⟩
      rintro r ⟨g3, e3, rfl, ⟨_, hg3, hs3⟩ | ⟨rfl, rfl, _⟩⟩
      · exact absurd hs3 (aw3 g3 hg3)
      · rw [sv_zero]
        refine ⟨_, _, _, _, _, _, rfl, ifB_intro (fun _ => ⟨by simp, _, _, _, _, _, rfl, rfl⟩) (fun h => ?_)⟩
        have : seq (bA (tx aw1)) (ByteArray.mk (Array.mk [97, 110, 100, 32, 50, 32, 99, 111, 109, 112, 32, 54, 52, 54, 50, 32, 110, 111, 116, 32, 107, 105, 110, 100, 32, 52])) = true := by
          rw [aw1_tx, seq_d]; exact decide_eq_true rfl
        rw [this] at h
        simp at h
    · exact absurd (by rw [aw2_tx]) (hno aw2 aw2_ok)
  · exact absurd aw1_ok h
end Go.Proofs.YtknnooannohflaaDoor.Trm
