/- Layers 8 and 9: the next frame; heads, records, seals. -/
import Derived.Test.YtbocfphenkidnaaDoorSg1
namespace Go.Proofs.YtbocfphenkidnaaDoor.Seg
open Go Go.Px Go.Proofs Go.Proofs.YtbocfphenkidnaaDoor.Cod
set_option maxRecDepth 100000
set_option linter.unusedVariables false

theorem wor8 {x y : Int} (hx : 0 ≤ x ∧ x ≤ 255) (hy : 0 ≤ y ∧ y ≤ 255) : wor .i64 (wshl .i64 (wcv .i64 x) 8) (wcv .i64 y) = 256 * x + y := by
  have e1 : wshl .i64 x 8 = x * 256 := by
    unfold wshl
    have : (2 : Int) ^ (min (8 : Int).toNat IntKind.i64.bits) = 256 := by decide
    rw [this]
    exact wrap_i64 (by omega) (by omega)
  rw [wcvI64 (by omega) (by omega), wcvI64 (by omega) (by omega), e1]
  obtain ⟨m, rfl⟩ : ∃ m : Nat, x = m := ⟨x.toNat, by omega⟩
  obtain ⟨n, rfl⟩ : ∃ n : Nat, y = n := ⟨y.toNat, by omega⟩
  unfold wor
  have b1 : (BitVec.ofInt IntKind.i64.bits ((m : Int) * 256)).toNat = m * 256 := by
    have : ((m : Int) * 256) = ((m * 256 : Nat) : Int) := by omega
    rw [this, BitVec.ofInt_natCast, BitVec.toNat_ofNat]
    exact Nat.mod_eq_of_lt (by show m * 256 < 18446744073709551616; omega)
  have b2 : (BitVec.ofInt IntKind.i64.bits (n : Int)).toNat = n := by
    rw [BitVec.ofInt_natCast, BitVec.toNat_ofNat]
    exact Nat.mod_eq_of_lt (by show n < 18446744073709551616; omega)
  rw [BitVec.toNat_or, b1, b2]
  have : m * 256 ||| n = m * 256 + n := by
    have := Nat.shiftLeft_add_eq_or_of_lt (show n < 2 ^ 8 by omega) m
    rw [Nat.shiftLeft_eq] at this
    exact this.symm
  rw [this]
  have : ((m * 256 + n : Nat) : Int) = 256 * (m : Int) + n := by omega
  rw [this]
  exact wrap_i64 (by omega) (by omega)

/-- What stands at a place. -/
def nextR (r : List Int) : Int × Int × List Int × Int :=
  if r = [] then (1, 0, [], 0) else if r.length < 7 then (2, 0, [], 0)
  else if 200 < 256 * byAt r 0 + byAt r 1 then (3, 0, [], 0)
  else if (r.length : Int) < 256 * byAt r 0 + byAt r 1 + 7 then (2, 0, [], 0)
  else if ¬ (1 ≤ byAt r 2 ∧ byAt r 2 ≤ 3) then (3, 0, [], 0)
  else if sealB (r.take ((256 * byAt r 0 + byAt r 1).toNat + 3)) = r.take ((256 * byAt r 0 + byAt r 1).toNat + 7) then
    (0, byAt r 2, (r.take ((256 * byAt r 0 + byAt r 1).toNat + 3)).drop 3, 256 * byAt r 0 + byAt r 1 + 7) else (3, 0, [], 0)
def nextF (l : List Int) (a : Int) : Int × Int × List Int × Int := if a < 0 ∨ (l.length : Int) < a then (3, 0, [], 0) else nextR (l.drop a.toNat)

theorem byAt_range {r : List Int} (hb : Byts r) {i : Int} (h0 : 0 ≤ i) (h1 : i < r.length) : 0 ≤ byAt r i ∧ byAt r i ≤ 255 := by
  have : i.toNat < r.length := by omega
  have h2 : byAt r i = r[i.toNat] := by simp [byAt, this]
  rw [h2]; exact hb _ (List.getElem_mem _)

abbrev nxS (p : Int × Int × List Int × Int) : List SV := [I p.1, I p.2.1, SL 1 (bR p.2.2.1), I p.2.2.2]

theorem fnext_fn (l : List Int) (a : Int) (hb : Byts l) (hl : l.length ≤ 1000000) : Ct Tryd.prog 17 {} [SL 1 (bR l), I a] (fun r => r = nxS (nextF l a)) := by
  have hrl : rlen (bR l) = l.length := by simp [rlen]
  refine fnext_nf _ _ _ ?_
  rw [hrl]
  refine ifB_intro (fun h => ?_) (fun h => ?_)
  · simp at h
    simp [nextF, h]
  simp at h
  have hn : ¬ (a < 0 ∨ (l.length : Int) < a) := by omega
  have hdr : rsub (bR l) a (l.length : Int) = bR (l.drop a.toNat) := by rw [rsub_bR]; simp
  have hbr : Byts (l.drop a.toNat) := hb.sub fun x hx => List.mem_of_mem_drop hx
  have hlr : (l.drop a.toNat).length ≤ 1000000 := by simp; omega
  refine ⟨⟨h.1, h.2, by omega⟩, ?_⟩
  rw [hdr, show nextF l a = nextR (l.drop a.toNat) by unfold nextF; rw [if_neg hn]]
  generalize l.drop a.toNat = r at *
  have hrr : rlen (bR r) = r.length := by simp [rlen]
  rw [hrr]
  refine ifB_intro (fun h2 => ?_) (fun h2 => ifB_intro (fun h3 => ?_) (fun h3 => ?_))
  · simp at h2
    simp [nextR, h2]
  · simp at h2 h3
    simp [nextR, h2, show r.length < 7 by omega]
  simp at h2 h3
  have h7 : ¬ r.length < 7 := by omega
  have r0 := byAt_range hbr (i := 0) (by omega) (by omega)
  have r1 := byAt_range hbr (i := 1) (by omega) (by omega)
  have r2 := byAt_range hbr (i := 2) (by omega) (by omega)
  refine ⟨⟨by omega, by omega⟩, _, rget_bR (by omega) (by omega), by omega, ⟨by omega, by omega⟩, _, rget_bR (by omega) (by omega), ?_⟩
  rw [wor8 r0 r1]
  have hstart : nextR r = if 200 < 256 * byAt r 0 + byAt r 1 then (3, 0, [], 0)
      else if (r.length : Int) < 256 * byAt r 0 + byAt r 1 + 7 then (2, 0, [], 0)
      else if ¬ (1 ≤ byAt r 2 ∧ byAt r 2 ≤ 3) then (3, 0, [], 0)
      else if sealB (r.take ((256 * byAt r 0 + byAt r 1).toNat + 3)) = r.take ((256 * byAt r 0 + byAt r 1).toNat + 7) then
        (0, byAt r 2, (r.take ((256 * byAt r 0 + byAt r 1).toNat + 3)).drop 3, 256 * byAt r 0 + byAt r 1 + 7) else (3, 0, [], 0) := by
    conv => lhs; unfold nextR
    rw [if_neg h2, if_neg h7]
  have hn0 : 0 ≤ 256 * byAt r 0 + byAt r 1 := by omega
  rw [hstart]
  generalize 256 * byAt r 0 + byAt r 1 = n at *
  refine ifB_intro (fun h4 => ?_) (fun h4 => ?_)
  · simp at h4
    simp [h4]
  simp at h4
  have w : wadd IntKind.i64 n 7 = n + 7 := wadd_i64 (by omega) (by omega)
  rw [w]
  refine ifB_intro (fun h5 => ?_) (fun h5 => ?_)
  · simp at h5
    simp [h5, show ¬ 200 < n by omega]
  simp at h5
  have hk : wcv IntKind.i64 (byAt r 2) = byAt r 2 := wcvI64 (by omega) (by omega)
  refine ⟨⟨by omega, by omega⟩, _, rget_bR (by omega) (by omega), ?_⟩
  rw [hk]
  refine Cl.of (kindly_fn _) ⟨_, rfl, ifB_intro (fun h6 => ?_) (fun h6 => ?_)⟩
  · simp at h6
    have : ¬ (1 ≤ byAt r 2 ∧ byAt r 2 ≤ 3) := by omega
    rw [if_neg (by omega), if_neg (by omega), if_pos this]
    rfl
  simp at h6
  have hst2 : (if 200 < n then ((3, 0, [], 0) : Int × Int × List Int × Int)
      else if (r.length : Int) < n + 7 then (2, 0, [], 0)
      else if ¬ (1 ≤ byAt r 2 ∧ byAt r 2 ≤ 3) then (3, 0, [], 0)
      else if sealB (r.take (n.toNat + 3)) = r.take (n.toNat + 7) then
        (0, byAt r 2, (r.take (n.toNat + 3)).drop 3, n + 7) else (3, 0, [], 0)) = if sealB (r.take (n.toNat + 3)) = r.take (n.toNat + 7) then
        (0, byAt r 2, (r.take (n.toNat + 3)).drop 3, n + 7) else (3, 0, [], 0) := by
    rw [if_neg (by omega), if_neg (by omega), if_neg (by simp; exact h6)]
  rw [hst2]
  have hn7 : (n + 7).toNat = n.toNat + 7 := by omega
  have hrs : rsub (bR r) 0 (n + 7) = bR (r.take (n.toNat + 7)) := by rw [rsub_bR, hn7]; simp
  have hlt : (r.take (n.toNat + 7)).length = n.toNat + 7 := by simp; omega
  refine ⟨⟨by omega, by omega, by omega⟩, Cl.of ctable_fn ⟨_, rfl, ?_⟩⟩
  rw [hrs]
  refine Cl.of (copen_fn _ (hbr.sub fun x hx => List.mem_of_mem_take hx) (by omega)) ⟨_, _, rfl, ?_⟩
  have htt : (r.take (n.toNat + 7)).take ((r.take (n.toNat + 7)).length - 4) = r.take (n.toNat + 3) := by
    rw [hlt, List.take_take]; congr 1; omega
  have ho : openE (r.take (n.toNat + 7)) = if sealB (r.take (n.toNat + 3)) = r.take (n.toNat + 7) then (r.take (n.toNat + 3), 0) else ([], 12) := by
    unfold openE
    rw [if_neg (by omega), htt]
  rw [ho]
  by_cases he : sealB (r.take (n.toNat + 3)) = r.take (n.toNat + 7)
  · rw [if_pos he, if_pos he]
    have hl3 : (r.take (n.toNat + 3)).length = n.toNat + 3 := by simp; omega
    have hrl3 : rlen (bR (r.take (n.toNat + 3))) = ((n.toNat + 3 : Nat) : Int) := by simp [rlen]; omega
    refine ifB_intro (fun h => by simp at h) (fun _ => ?_)
    rw [hrl3]
    refine ⟨⟨by omega, by omega, by omega⟩, ?_⟩
    rw [rsub_bR]
    have : ((r.take (n.toNat + 3)).take ((n.toNat + 3 : Nat) : Int).toNat).drop (3 : Int).toNat = (r.take (n.toNat + 3)).drop 3 := by
      rw [Int.toNat_natCast, List.take_of_length_le (by omega)]; rfl
    rw [this]
  · rw [if_neg he, if_neg he]
    exact ifB_intro (fun _ => rfl) (fun h => by simp at h)

theorem numb_fn (n : Int) : Ct Tryd.prog 24 {} [I n] (fun r => r = [B (decide (1 ≤ n ∧ n ≤ 99999999))]) := by
  refine snumb_nf _ _ ?_
  have : bpick (ige n 1) (ile n 99999999) false = decide (1 ≤ n ∧ n ≤ 99999999) := by
    rw [Bool.eq_iff_iff, decide_eq_true_eq]; simp
  rw [this]

theorem sput_fn (l : List Int) (n s a : Int) (ns : List (List SV)) (hn : 0 ≤ n ∧ n ≤ 9223372036854775807) (hs : 0 ≤ s ∧ s ≤ 9223372036854775807) (ha : 0 ≤ a ∧ a ≤ 9223372036854775807) (hl : l.length ≤ 90000) :
    Ct Tryd.prog 29 ⟨[], [.own]⟩ [SL 1 (bR l), I n, Seg.cx3 s a ns] (fun r => r = [SL 1 (bR (l ++ (leb n.toNat ++ (leb s.toNat ++ leb a.toNat))))]) := by
  refine sput_nf _ _ _ _ _ _ ?_
  have h1 : (leb n.toNat).length ≤ 10 := leb_small (by omega)
  have h2 : (leb s.toNat).length ≤ 10 := leb_small (by omega)
  rw [wcvU64 hn.1 (by omega), wcvU64 hs.1 (by omega), wcvU64 ha.1 (by omega)]
  refine Cl.of (putUint_fn l n hn.1 (by omega) (by omega)) ⟨_, rfl, Cl.of (putUint_fn _ s hs.1 (by omega) (by simp; omega)) ⟨_, rfl, Cl.of (putUint_fn _ a ha.1 (by omega) (by simp; omega)) ⟨_, rfl, ?_⟩⟩⟩
  simp

/-- The payload of a head. -/
def hdP (n s a : Int) : List Int := [102, 98, 120, 49] ++ (leb n.toNat ++ (leb s.toNat ++ leb a.toNat))
def slP (n s a : Int) : List Int := leb n.toNat ++ (leb s.toNat ++ leb a.toNat)
def ctxOK (s a : Int) : Prop := 0 ≤ s ∧ s ≤ 4294967296 ∧ 0 ≤ a ∧ a ≤ 1099511627776
instance (s a : Int) : Decidable (ctxOK s a) := inferInstanceAs (Decidable (_ ∧ _))
def headE (n s a : Int) (l : List ByteArray) : List Int × Int := if ¬ (1 ≤ n ∧ n ≤ 99999999) then ([], 1) else if ¬ (ctxOK s a ∧ l = []) then ([], 1) else (fr 1 (hdP n s a), 0)

theorem hdP_len {n s a : Int} (hn : n ≤ 99999999) (hs : s ≤ 4294967296) (ha : a ≤ 1099511627776) : (hdP n s a).length ≤ 34 := by
  have h1 : (leb n.toNat).length ≤ 10 := leb_small (by omega)
  have h2 : (leb s.toNat).length ≤ 10 := leb_small (by omega)
  have h3 : (leb a.toNat).length ≤ 10 := leb_small (by omega)
  simp [hdP]; omega

theorem byts_hdP (n s a : Int) : Byts (hdP n s a) := Byts.app (fun x hx => by simp at hx; omega) ((byts_leb _).app ((byts_leb _).app (byts_leb _)))

theorem shead_fn (n s a : Int) (l : List ByteArray) (hl : l.length ≤ 9223372036854775807) : Ct Tryd.prog 14 ⟨[], [.own, .pure]⟩ [I n, Seg.cx3 s a (nR l)] (fun r => r = [SL 1 (bR (headE n s a l).1), I (headE n s a l).2]) := by
  refine shead_nf _ _ _ _ _ (Cl.of (numb_fn n) ⟨_, rfl, ifB_intro (fun h => ?_) (fun h => ?_)⟩)
  · simp at h
    have : ¬ (1 ≤ n ∧ n ≤ 99999999) := by omega
    simp only [headE, if_pos this]; rfl
  simp at h
  refine Cl.of (cright_fn s a l) ⟨_, rfl, ifB_intro (fun h2 => ?_) (fun h2 => ?_)⟩
  · have hneg : ¬ (ctxOK s a ∧ l = []) := by
      rintro ⟨h3, rfl⟩
      have : ctxB s a [] = true := ctxB_iff.2 ⟨h3, by rfl⟩
      simp [this, rlen] at h2
    rw [headE, if_neg (by simp; exact h), if_pos hneg]; rfl
  · simp [rlen] at h2
    have h3 := (ctxB_iff.1 h2.1).1
    have hl0 : l = [] := h2.2
    subst hl0
    rw [headE, if_neg (by simp; exact h), if_neg (by simp; exact h3)]
    refine ⟨by decide, Cl.of (sput_fn [102, 98, 120, 49] n s a _ (by omega) (by omega) (by omega) (by decide)) ⟨_, rfl, ?_⟩⟩
    have hlen := hdP_len (n := n) (s := s) (a := a) (by omega) (by omega) (by omega)
    refine Cl.of (fput_fn 1 (hdP n s a) (byts_hdP _ _ _) (by omega)) ⟨_, _, rfl, ?_⟩
    simp [putF, show ¬ 200 < (hdP n s a).length by omega]

end Go.Proofs.YtbocfphenkidnaaDoor.Seg
