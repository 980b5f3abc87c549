/- Layer 17: the law SnapBack. -/
import Derived.Test.YtbocfphenkidnaaGreatDoorSnF
namespace Go.Proofs.YtbocfphenkidnaaGreatDoor.Snp
open Go Go.Px Go.Proofs Go.Proofs.YtbocfphenkidnaaGreatDoor.Cod Go.Proofs.YtbocfphenkidnaaGreatDoor.Seg Go.Proofs.YtbocfphenkidnaaGreatDoor.Sgr Go.Proofs.YtbocfphenkidnaaGreatDoor.St Go.Proofs.YtbocfphenkidnaaGreatDoor.Row Go.Proofs.YtbocfphenkidnaaGreatDoor.Dsk
set_option maxRecDepth 100000
set_option linter.unusedVariables false

def xr (a b : Int) : Int := ((a.toNat ^^^ b.toNat : Nat) : Int)
theorem xr_range {a b : Int} (ha : 0 ≤ a ∧ a ≤ 255) (hb : 0 ≤ b ∧ b ≤ 255) : 0 ≤ xr a b ∧ xr a b ≤ 255 := by
  have : a.toNat ^^^ b.toNat < 256 := Nat.xor_lt_two_pow (n := 8) (by omega) (by omega)
  unfold xr
  omega
theorem xr_zero {a b : Int} (ha : 0 ≤ a) (hb : 0 ≤ b) (h : a = xr a b) : b = 0 := by
  unfold xr at h
  have h1 : a.toNat = a.toNat ^^^ b.toNat := by omega
  have h2 := congrArg (a.toNat ^^^ ·) h1
  simp only [Nat.xor_self, ← Nat.xor_assoc, Nat.zero_xor] at h2
  omega
theorem xr_nil (a : Int) (ha : 0 ≤ a) : xr a 0 = a := by unfold xr; simp; omega

theorem decE_sealed {l : List Int} (h4 : 4 ≤ l.length) (h : ∀ m, Byts m → sealB m ≠ l) (hb : Byts l) : decE l = 12 := by
  unfold decE
  rw [if_neg (by omega), if_neg (h _ (hb.sub fun x hx => List.mem_of_mem_take hx))]

theorem law5_fn (s t : StD) (hs : s.cs.length ≤ 9223372036854775807) (ht : t.cs.length ≤ 9223372036854775807) (at_ b0 b1 b2 b3 : Int) (ha : 0 ≤ at_ ∧ at_ ≤ 65535) (k0 : 0 ≤ b0 ∧ b0 ≤ 255) (k1 : 0 ≤ b1 ∧ b1 ≤ 255) (k2 : 0 ≤ b2 ∧ b2 ≤ 255) (k3 : 0 ≤ b3 ∧ b3 ≤ 255) :
    Ct Tryz.prog 5 {} [s.sv, t.sv, U16 at_, .agg [U8 b0, U8 b1, U8 b2, U8 b3]] (fun r => r = [B true]) := by
  refine nlaw5_nf _ _ _ _ _ _ _ _ _ _ _ _ (Cl.of nawake_fn ⟨_, rfl, ifB_intro (fun h => by simp at h) (fun _ => ?_)⟩)
  refine Cl.of (sshort_fn s hs) ⟨_, rfl, ifB_intro (fun _ => rfl) (fun _ => Cl.of (sshort_fn t ht) ⟨_, rfl, ifB_intro (fun _ => rfl) (fun _ => Cl.of (nenc_fn s) ?_)⟩)⟩
  by_cases hp : s.P
  rotate_left
  · rw [if_neg hp]
    refine ⟨_, _, rfl, Cl.of (nenc_fn t) ?_⟩
    have fin2 : ∀ (K : Prop), ifB (bpick (ine 1 0) true (ilt (rlen []) 4)) (ifB (ine 1 0) (Cl Tryz.prog 43 sP ([SV.agg [SL 21 (coR s.cs), I s.q, I s.t]]) (fun (rs5 : List SV) => ∃ b6 : Bool, (rs5 = [B b6]) ∧ ([B (bnot b6)] = [B true]))) ([B false] = [B true])) K := fun _ =>
      ifB_intro (fun _ => ifB_intro (fun _ => Cl.of (sright_fn s) ⟨_, rfl, by simp [hp]⟩) (fun h => by simp at h)) (fun h => by simp at h)
    by_cases hq : t.P
    · rw [if_pos hq]; exact ⟨_, _, rfl, fin2 _⟩
    · rw [if_neg hq]; exact ⟨_, _, rfl, fin2 _⟩
  rw [if_pos hp]
  obtain ⟨hlu, hll⟩ := snB_len hp
  have hby := snB_byts s
  have hrl : rlen (bR (snB s)) = (snB s).length := by simp [rlen]
  obtain ⟨cp1, cp2⟩ := p_cells hp
  refine ⟨_, _, rfl, Cl.of (nenc_fn t) ?_⟩
  -- what the second state's bytes are
  obtain ⟨m, e1, hm, hmb, hmt⟩ : ∃ (m : List Int) (e1 : Int), (if t.P then [SL 1 (bR (snB t)), I 0] else [SL 1 [], I 1]) = [SL 1 (bR m), I e1] ∧ Byts m ∧ (e1 = 0 → (snB s = m ↔ s = t)) := by
    by_cases hq : t.P
    · exact ⟨snB t, 0, by rw [if_pos hq], snB_byts t, fun _ => ⟨fun e => snB_inj hp hq e, fun e => by rw [e]⟩⟩
    · exact ⟨[], 1, by rw [if_neg hq]; rfl, (fun x hx => by cases hx), fun h => by omega⟩
  rw [hm]
  refine ⟨_, _, rfl, ?_⟩
  rw [hrl]
  refine ifB_intro (fun h => by simp at h; omega) (fun _ => Cl.ofQ (ndec_fn (snB s) (by omega) hby) ?_)
  rintro r ⟨u, e, rfl, hu⟩
  obtain ⟨rfl, rfl⟩ := hu.eq (.inl ⟨hp, rfl, rfl⟩)
  refine ⟨_, _, _, _, rfl, fun b => b = false, fun _ => 0, ?_, ?_⟩
  · refine ifB_intro (fun h => by simp at h) (fun _ => Cl.of (ssame_fn u u cp1 cp2) ⟨_, rfl, ifB_intro (fun h => by simp at h) (fun _ => ifB_intro (fun h1 => ?_) (fun h1 => ⟨rfl, rfl⟩))⟩)
    simp at h1
    refine ⟨isBytes_bR hby, isBytes_bR hmb, Cl.of (ssame_fn u t cp1 cp2) ⟨_, rfl, rfl, ?_⟩⟩
    rw [bstr_seq hby hmb]
    have := hmt h1
    by_cases he : u = t
    · rw [decide_eq_true (this.2 he), decide_eq_true he]; rfl
    · have h2 : snB u ≠ m := fun h => he (this.1 h)
      rw [decide_eq_false h2, decide_eq_false he]; rfl
  rintro _ rfl
  refine ifB_intro (fun h => by simp at h) (fun _ => ?_)
  have w3 : wsub IntKind.i64 ((snB u).length : Int) 3 = (snB u).length - 3 := wsub_i64 (by omega) (by omega)
  have wa : wcv IntKind.i64 at_ = at_ := wrap_i64 (by omega) (by omega)
  have hrm : 0 ≤ wrem at_ ((snB u).length - 3) ∧ wrem at_ ((snB u).length - 3) < (snB u).length - 3 := by
    unfold wrem
    rw [Int.tmod_eq_emod_of_nonneg ha.1]
    exact ⟨Int.emod_nonneg _ (by omega), Int.emod_lt_of_pos _ (by omega)⟩
  rw [w3, wa]
  obtain ⟨k, hk⟩ : ∃ k : Nat, wrem at_ ((snB u).length - 3) = (k : Int) := ⟨(wrem at_ ((snB u).length - 3)).toNat, by omega⟩
  rw [hk] at hrm ⊢
  have hk3 : k + 3 < (snB u).length := by omega
  -- the four bytes
  obtain ⟨A, x0, x1, x2, x3, Z, hA, hAl⟩ : ∃ A x0 x1 x2 x3 Z, snB u = A ++ [x0, x1, x2, x3] ++ Z ∧ A.length = k := by
    have hd : ((snB u).drop k).length = (snB u).length - k := by simp
    match hdr : (snB u).drop k, hd with
    | x0 :: x1 :: x2 :: x3 :: Z, _ => exact ⟨(snB u).take k, x0, x1, x2, x3, Z, by rw [List.append_assoc]; simp only [List.cons_append, List.nil_append]; rw [← hdr, List.take_append_drop], by simp; omega⟩
    | [], h => simp at h; omega
    | [_], h => simp at h; omega
    | [_, _], h => simp at h; omega
    | [_, _, _], h => simp at h; omega
  have hx : Byts [x0, x1, x2, x3] := hby.sub fun y hy => by rw [hA]; simp at hy ⊢; rcases hy with h | h | h | h <;> simp [h]
  have hZ : Byts Z := hby.sub fun y hy => by rw [hA]; simp [hy]
  have hAb : Byts A := hby.sub fun y hy => by rw [hA]; simp [hy]
  have g0 := hx x0 (by simp); have g1 := hx x1 (by simp); have g2 := hx x2 (by simp); have g3 := hx x3 (by simp)
  have hlen : (snB u).length = A.length + (4 + Z.length) := by rw [hA]; simp; omega
  -- how far the loop is
  let st : Nat → List Int := fun i => A ++ ([if 0 < i then xr x0 b0 else x0, if 1 < i then xr x1 b1 else x1, if 2 < i then xr x2 b2 else x2, if 3 < i then xr x3 b3 else x3] ++ Z)
  have stl : ∀ i, (st i).length = (snB u).length := fun i => by simp [st]; omega
  have xb : ∀ a b : Int, (0 ≤ a ∧ a ≤ 255) → (0 ≤ b ∧ b ≤ 255) → wxor IntKind.u8 a b = xr a b := fun a b ha hb => by
    have := wxor_u8 a.toNat b.toNat (by omega) (by omega)
    rw [show ((a.toNat : Nat) : Int) = a by omega, show ((b.toNat : Nat) : Int) = b by omega] at this
    exact this
  refine ⟨by simp [lsum, rlen]; omega, by omega, fun i q => 0 ≤ i ∧ i ≤ 4 ∧ q = bR (st i.toNat), fun i _ => (4 - i).toNat, ⟨by omega, by omega, ?_⟩, ?_⟩
  · rw [hA]; simp [rapp, st]
  rintro i _ ⟨i0, i1, rfl⟩
  refine ifB_intro (fun hi => ?_) (fun hi => ?_)
  · simp at hi
    have wi : wadd IntKind.i64 i 1 = i + 1 := wadd_i64 (by omega) (by omega)
    have wk : wadd IntKind.i64 (k : Int) i = k + i := wadd_i64 (by omega) (by omega)
    have hrs : rlen (bR (st i.toNat)) = (snB u).length := by rw [← stl i.toNat]; simp [rlen]
    rw [wk, wi, hrs]
    have rng : (0 : Int) ≤ k + i ∧ (k : Int) + i < (snB u).length := ⟨by omega, by omega⟩
    have hget : ∀ (j : Nat) (v : Int), j < 4 → i = j → ((st j)[A.length + j]? = some v) → rget (bR (st i.toNat)) (k + i) = [U8 v] := by
      rintro j v hj rfl hv
      have : ((k : Int) + (j : Int)).toNat = A.length + j := by omega
      unfold rget
      rw [this, Int.toNat_natCast, List.getD_eq_getElem?_getD, List.getElem?_map, hv]; rfl
    have hset : ∀ (j : Nat) (v : Int), i = j → (st j).set (A.length + j) v = st (j + 1) → rset (bR (st i.toNat)) (k + i) [U8 v] = bR (st (i + 1).toNat) := by
      rintro j v rfl hv
      have : ((k : Int) + (j : Int)).toNat = A.length + j := by omega
      unfold rset
      rw [this, Int.toNat_natCast, show ((j : Int) + 1).toNat = j + 1 by omega, ← hv]
      simp [bR, List.map_set]
    have hi4 : i = 0 ∨ i = 1 ∨ i = 2 ∨ i = 3 := by omega
    have one : ∃ (j : Nat) (v b : Int), i = j ∧ j < 4 ∧ (st j)[A.length + j]? = some v ∧ (0 ≤ v ∧ v ≤ 255) ∧ (i = 0 → b = b0) ∧ (i = 1 → b = b1) ∧ (i = 2 → b = b2) ∧ (i = 3 → b = b3) ∧ (st j).set (A.length + j) (xr v b) = st (j + 1) := by
      have at_ : ∀ (y0 y1 y2 y3 : Int) (j : Nat), (A ++ ([y0, y1, y2, y3] ++ Z))[A.length + j]? = ([y0, y1, y2, y3] ++ Z)[j]? := fun y0 y1 y2 y3 j => by
        rw [List.getElem?_append_right (by omega), show A.length + j - A.length = j by omega]
      have se_ : ∀ (y0 y1 y2 y3 v : Int) (j : Nat), (A ++ ([y0, y1, y2, y3] ++ Z)).set (A.length + j) v = A ++ ([y0, y1, y2, y3] ++ Z).set j v := fun y0 y1 y2 y3 v j => by
        rw [List.set_append, if_neg (by omega), show A.length + j - A.length = j by omega]
      rcases hi4 with rfl | rfl | rfl | rfl
      · exact ⟨0, x0, b0, rfl, by omega, by simp only [st]; rw [at_]; rfl, g0, fun _ => rfl, fun h => by omega, fun h => by omega, fun h => by omega, by simp only [st]; rw [se_]; rfl⟩
      · exact ⟨1, x1, b1, rfl, by omega, by simp only [st]; rw [at_]; rfl, g1, fun h => by omega, fun _ => rfl, fun h => by omega, fun h => by omega, by simp only [st]; rw [se_]; rfl⟩
      · exact ⟨2, x2, b2, rfl, by omega, by simp only [st]; rw [at_]; rfl, g2, fun h => by omega, fun h => by omega, fun _ => rfl, fun h => by omega, by simp only [st]; rw [se_]; rfl⟩
      · exact ⟨3, x3, b3, rfl, by omega, by simp only [st]; rw [at_]; rfl, g3, fun h => by omega, fun h => by omega, fun h => by omega, fun _ => rfl, by simp only [st]; rw [se_]; rfl⟩
    obtain ⟨j, v, b, hj, hj4, hv, hvr, e0, e1, e2, e3, hst⟩ := one
    have hm : Nat.le (Nat.succ (4 - (i + 1)).toNat) (4 - i).toNat := mlt (by omega)
    have fin : ∀ b', b' = b → (0 ≤ b' ∧ b' ≤ 255) → rset (bR (st i.toNat)) (k + i) [U8 (wxor IntKind.u8 v b')] = bR (st (i + 1).toNat) := by
      rintro b' rfl hb'
      rw [xb v b' hvr hb']
      exact hset j _ hj hst
    refine ⟨rng, rng, v, hget j v hj4 hj hv, ⟨i0, by omega⟩, fun h => ⟨rng, rng, rfl, ⟨by omega, by omega, fin b0 (e0 h).symm k0⟩, hm⟩, fun h => ⟨rng, rng, rfl, ⟨by omega, by omega, fin b1 (e1 h).symm k1⟩, hm⟩, fun h => ⟨rng, rng, rfl, ⟨by omega, by omega, fin b2 (e2 h).symm k2⟩, hm⟩, fun h => ⟨rng, rng, rfl, ⟨by omega, by omega, fin b3 (e3 h).symm k3⟩, hm⟩, trivial⟩
  · simp at hi
    have i4 : i.toNat = 4 := by omega
    rw [i4]
    have e4 : st 4 = A ++ [xr x0 b0, xr x1 b1, xr x2 b2, xr x3 b3] ++ Z := by simp [st]
    have hy : Byts [xr x0 b0, xr x1 b1, xr x2 b2, xr x3 b3] := by
      intro y hy
      simp only [List.mem_cons, List.not_mem_nil, or_false] at hy
      rcases hy with rfl | rfl | rfl | rfl
      · exact xr_range g0 k0
      · exact xr_range g1 k1
      · exact xr_range g2 k2
      · exact xr_range g3 k3
    have hb4 : Byts (st 4) := by rw [e4]; exact (hAb.app hy).app hZ
    refine Cl.ofQ (ndec_fn (st 4) (by rw [stl]; omega) hb4) ?_
    rintro r ⟨w, e, rfl, hw⟩
    refine ⟨_, _, _, _, rfl, ifB_intro (fun hz => ?_) (fun hz => ?_)⟩
    · have hz' : b0 = 0 ∧ b1 = 0 ∧ b2 = 0 ∧ b3 = 0 := by simpa [band] using hz
      obtain ⟨rfl, rfl, rfl, rfl⟩ := hz'
      have : st 4 = snB u := by rw [e4, hA, xr_nil _ g0.1, xr_nil _ g1.1, xr_nil _ g2.1, xr_nil _ g3.1]
      rw [this] at hw
      obtain ⟨_, rfl⟩ := hw.eq (.inl ⟨hp, rfl, rfl⟩)
      rfl
    · have hz' : ¬ (b0 = 0 ∧ b1 = 0 ∧ b2 = 0 ∧ b3 = 0) := by rintro ⟨rfl, rfl, rfl, rfl⟩; simp [band] at hz
      have ns : ∀ m, Byts m → sealB m ≠ st 4 := by
        intro m hm e
        have e2 : sealB (mg ++ encS u) = A ++ [x0, x1, x2, x3] ++ Z := hA
        have := burst (byts_mg.app (byts_encS u)) hm hx hy hZ e2 (e.trans e4)
        simp only [List.cons.injEq, and_true] at this
        exact hz' ⟨xr_zero g0.1 k0.1 this.1, xr_zero g1.1 k1.1 this.2.1, xr_zero g2.1 k2.1 this.2.2.1, xr_zero g3.1 k3.1 this.2.2.2⟩
      have h12 := decE_sealed (by rw [stl]; omega) ns hb4
      have k : SnD (st 4) st0 12 := .inr ⟨fun d0 h e => ns _ (byts_mg.app (byts_encS d0)) e, rfl, h12.symm⟩
      obtain ⟨rfl, rfl⟩ := hw.eq k
      exact ifB_intro (fun _ => Cl.of (ssame_fn st0 st0 (by simp) (fun c hc => by cases hc)) ⟨_, rfl, by simp⟩) (fun h => by simp at h)
end Go.Proofs.YtbocfphenkidnaaGreatDoor.Snp
