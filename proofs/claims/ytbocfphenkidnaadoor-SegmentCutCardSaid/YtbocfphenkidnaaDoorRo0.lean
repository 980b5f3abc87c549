/- Layer 3, once more: what is read stands there. -/
import Derived.Test.YtbocfphenkidnaaDoorCodA
namespace Go.Proofs.YtbocfphenkidnaaDoor.Cod
open Go Go.Px Go.Proofs
set_option maxRecDepth 100000
set_option linter.unusedVariables false

theorem tx_bstr {l : List Int} (h : Byts l) : txB (bstr (bR l)) = l := by
  simp only [txB, bstr, bR, List.map_map]
  conv => rhs; rw [← List.map_id l]
  apply List.map_congr_left
  intro x hx
  have := h x hx
  simp [byteOfRow]
  omega

def XSnd (l : List Int) (a er a' er' : Int) (s : ByteArray) : Prop := er' = 0 → er = 0 ∧ 0 ≤ a ∧ s.size ≤ 24 ∧ ∃ rest, l.drop a.toNat = leb s.size ++ (txB s ++ rest) ∧ a' = a + (leb s.size).length + s.size

theorem textS_fn (l : List Int) (a er : Int) (hl : l.length ≤ 100000) (hb : Byts l) : Ct Tryd.prog 91 {} [cu3 (bR l) a er, I 24] (fun r => ∃ a' er' s, r = [cu3 (bR l) a' er', S s] ∧ XOut l a er a' er' s ∧ XSnd l a er a' er' s) := by
  refine text_nf _ _ _ _ _ (Cl.ofQ (uintS_fn l a er hl hb) ?_)
  rintro r ⟨a1, er1, n, rfl, ho, hsn⟩
  have w24 : wcv IntKind.u64 24 = 24 := rfl
  have n0 := ho.n0
  have n1 := ho.n1
  have hgood : er = 0 → 0 ≤ a → ∀ (t : ByteArray) rest, l.drop a.toNat = leb t.size ++ (txB t ++ rest) → t.size ≤ 24 → a1 = a + (leb t.size).length ∧ er1 = 0 ∧ n = t.size ∧ l.drop a1.toNat = txB t ++ rest ∧ a1 + t.size ≤ l.length ∧ 0 ≤ a1 := by
    intro e1 e2 t rest e3 e4
    obtain ⟨g1, g2, g3⟩ := ho.good e1 e2 t.size _ e3 (by omega)
    have hd := drop_more e2 e3
    rw [← g1] at hd
    have hlen := congrArg List.length hd
    simp [txB_len] at hlen
    have := drop_lt e3
    exact ⟨g1, g2, g3, hd, by omega, by omega⟩
  refine ⟨_, _, _, _, rfl, ifB_intro (fun h => ?_) (fun h => ?_)⟩
  · simp at h
    exact ⟨_, _, _, rfl, ⟨fun e1 e2 t rest e3 e4 => absurd (hgood e1 e2 t rest e3 e4).2.1 h⟩, fun he => absurd he h⟩
  · simp at h
    refine ifB_intro (fun h2 => by simp at h2) (fun h2 => ?_)
    rw [w24]
    refine ifB_intro (fun h3 => ?_) (fun h3 => ?_)
    · simp at h3
      refine Cl.of (stay_fn l a er 9) ⟨_, _, _, rfl, _, _, _, rfl, ⟨fun e1 e2 t rest e3 e4 => ?_⟩, fun he => absurd he (styE_ne (by decide))⟩
      have := hgood e1 e2 t rest e3 e4
      omega
    · simp at h3
      refine Cl.of (left_fn l a1 er1 hl) ⟨_, rfl, ?_⟩
      have hr : rgtC l a1 er1 = true ↔ 0 ≤ a1 ∧ a1 ≤ l.length ∧ er1 = 0 := by simp [rgtC]
      have hw : wcv IntKind.u64 (if rgtC l a1 er1 = true then (l.length : Int) - a1 else 0) = (if rgtC l a1 er1 = true then (l.length : Int) - a1 else 0) := by
        split
        · rename_i hh; have := hr.1 hh; exact wcvU64 (by omega) (by omega)
        · rfl
      rw [hw]
      refine ifB_intro (fun h4 => ?_) (fun h4 => ?_)
      · refine Cl.of (stay_fn l a er 10) ⟨_, _, _, rfl, _, _, _, rfl, ⟨fun e1 e2 t rest e3 e4 => ?_⟩, fun he => absurd he (styE_ne (by decide))⟩
        have := hgood e1 e2 t rest e3 e4
        rw [if_pos (hr.2 (by omega))] at h4
        simp at h4
        omega
      · rw [wcvI64 (by omega) (by omega)]
        refine Cl.ofQ (take_fn l a1 er1 n hl (by omega) (by omega)) ?_
        rintro r ⟨a2, er2, bs, rfl, ht⟩
        refine ⟨_, _, _, _, rfl, isBytes_bR (hb.sub ht.mem), _, _, _, rfl, ⟨fun e1 e2 t rest e3 e4 => ?_⟩, fun _ => ?_⟩
        · obtain ⟨g1, g2, g3, g4, g5, g6⟩ := hgood e1 e2 t rest e3 e4
          obtain ⟨q1, q2, q3⟩ := ht.good g2 g6 n0 (by omega)
          refine ⟨by omega, q2, ?_⟩
          rw [q3, g4, g3]
          have : (txB t ++ rest).take ((t.size : Nat) : Int).toNat = txB t := by
            rw [Int.toNat_natCast, ← txB_len, List.take_left]
          rw [this, bstr_tx]
        · obtain ⟨s1, s2, rest, s3, s4⟩ := hsn h
          have hlen := congrArg List.length s3
          simp at hlen
          have hp := leb_pos n.toNat
          have ha1 : 0 ≤ a1 ∧ a1 ≤ l.length := by omega
          rw [if_pos (hr.2 ⟨ha1.1, ha1.2, h⟩)] at h4
          simp at h4 h3
          obtain ⟨q1, q2, q3⟩ := ht.good h ha1.1 n0 (by omega)
          have hd := drop_more s2 s3
          rw [← s4] at hd
          have hbs : bs.length = n.toNat := by rw [q3]; simp; omega
          have hby : Byts bs := hb.sub ht.mem
          have hsz : (bstr (bR bs)).size = n.toNat := by rw [← txB_len, tx_bstr hby, hbs]
          refine ⟨s1, s2, by omega, (l.drop a1.toNat).drop n.toNat, ?_, ?_⟩
          · rw [hsz, tx_bstr hby, q3, List.take_append_drop, hd]; exact s3
          · rw [hsz]; omega

end Go.Proofs.YtbocfphenkidnaaDoor.Cod
