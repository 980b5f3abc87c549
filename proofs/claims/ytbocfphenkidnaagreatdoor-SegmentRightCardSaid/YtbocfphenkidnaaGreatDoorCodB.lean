/- Layer 7: an event as bytes, by what was ahead. -/
import Derived.Test.YtbocfphenkidnaaGreatDoorCodA
namespace Go.Proofs.YtbocfphenkidnaaGreatDoor.Cod
open Go Go.Px Go.Proofs
set_option maxRecDepth 100000
set_option linter.unusedVariables false

structure EvD where
  s : Int
  a : Int
  k : Int
  c : ByteArray
  x : Int
  y : Int
  z : Int

abbrev EvD.sv (e : EvD) : SV := ev7 e.s e.a e.k e.c e.x e.y e.z
def chkE (e : EvD) : Int := chkI e.s e.a e.k e.c e.x e.y e.z

def numI (k x y z : Int) : List Int := [x, y, z].take (manyI k).toNat
theorem numL_numI (k x y z : Int) : numL k x y z = (numI k x y z).map fun n => [I n] := by
  unfold numL numI rsub
  rcases many_cases k with h | h | h | h <;> rw [h] <;> rfl
theorem numI_len (k x y z : Int) : ((numI k x y z).length : Int) = manyI k := by
  unfold numI
  rcases many_cases k with h | h | h | h <;> rw [h] <;> rfl

/-- Why an event may not follow; 0: it may. -/
def encE (cs ca : Int) (l : List ByteArray) (e : EvD) : Int :=
  if ctxB cs ca l = false then 1 else if chkE e ≠ 0 then chkE e else if e.s ≤ cs then 1 else if e.a < ca then 5 else if plc l e.c = 0 ∧ (putN l e.c).2 ≠ 0 then (putN l e.c).2 else 0

def numB (e : EvD) : List Int := (numI e.k e.x e.y e.z).flatMap fun n => leb n.toNat
def encL (cs ca : Int) (l : List ByteArray) (e : EvD) : List Int :=
  leb e.k.toNat ++ leb (e.s - cs).toNat ++ leb (e.a - ca).toNat ++ leb (plc l e.c) ++ (if plc l e.c = 0 then leb e.c.size ++ txB e.c else []) ++ numB e
def bhdN (l : List ByteArray) (c : ByteArray) : List ByteArray := if plc l c = 0 then l ++ [c] else l

/-- An event that may follow. -/
structure EncOK (cs ca : Int) (l : List ByteArray) (e : EvD) : Prop where
  ctx : ctxB cs ca l = true
  chk : chkE e = 0
  seq : cs < e.s
  time : ca ≤ e.a
  put : plc l e.c = 0 → (putN l e.c).2 = 0

theorem encE_zero {cs ca : Int} {l : List ByteArray} {e : EvD} : encE cs ca l e = 0 ↔ EncOK cs ca l e := by
  unfold encE
  constructor
  · intro h
    split at h
    · simp at h
    · rename_i h1
      split at h
      · rename_i h2; exact absurd h h2
      · rename_i h2
        split at h
        · simp at h
        · split at h
          · simp at h
          · split at h
            · rename_i h5; exact absurd h h5.2
            · rename_i h3 h4 h5
              exact ⟨by simpa using h1, by simpa using h2, by omega, by omega, fun hp => Classical.byContradiction fun hn => h5 ⟨hp, hn⟩⟩
  · rintro ⟨h1, h2, h3, h4, h5⟩
    rw [if_neg (by simp [h1]), if_neg (by simp [h2]), if_neg (by omega), if_neg (by omega), if_neg (fun h => h.2 (h5 h.1))]

theorem putN_zero {l : List ByteArray} {t : ByteArray} (h : (putN l t).2 = 0) : (putN l t).1 = l ++ [t] := by
  unfold putN at h ⊢
  split at h
  · simp at h
  · rename_i h1
    rw [if_neg h1]
    split at h
    · simp at h
    · rename_i h2
      rw [if_neg h2]
      split at h
      · simp at h
      · rename_i h3
        rw [if_neg h3]
        split at h
        · simp at h
        · rename_i h4
          rw [if_neg h4]

theorem chkE_zero {e : EvD} (h : chkE e = 0) : (1 ≤ e.k ∧ e.k ≤ 10) ∧ (1 ≤ e.c.size ∧ e.c.size ≤ 24) ∧ (lo1 e.k ≤ e.x ∧ e.x ≤ hi1 e.k ∧ 0 ≤ e.y ∧ e.y ≤ hi2 e.k ∧ 0 ≤ e.z ∧ e.z ≤ hi3 e.k) ∧ (0 ≤ e.a ∧ e.a ≤ 1099511627776) ∧ (0 ≤ e.s ∧ e.s ≤ 4294967296) := by
  obtain ⟨h1, h2, h3, h4, h5⟩ := chk0 h
  have h1 : ¬ (e.k < 1 ∨ 10 < e.k) := fun hh => h1 ((many0 _).2 hh)
  have h2 : 1 ≤ e.c.size ∧ e.c.size ≤ 24 := by simpa [namB] using h2
  have h3 : lo1 e.k ≤ e.x ∧ e.x ≤ hi1 e.k ∧ 0 ≤ e.y ∧ e.y ≤ hi2 e.k ∧ 0 ≤ e.z ∧ e.z ≤ hi3 e.k := by simpa [valB] using h3
  exact ⟨by omega, h2, h3, by omega, by omega⟩

theorem hi_le (k : Int) : 0 ≤ lo1 k ∧ hi1 k ≤ 2147483647 ∧ hi2 k ≤ 2147483647 ∧ hi3 k ≤ 2147483647 := by
  unfold lo1 hi1 hi2 hi3
  refine ⟨?_, ?_, ?_, ?_⟩ <;> repeat' split
  all_goals omega

theorem numI_range {e : EvD} (h : chkE e = 0) : ∀ n ∈ numI e.k e.x e.y e.z, 0 ≤ n ∧ n ≤ 2147483647 := by
  obtain ⟨_, _, h3, _, _⟩ := chkE_zero h
  have := hi_le e.k
  intro n hn
  have := List.mem_of_mem_take hn
  simp at this
  rcases this with rfl | rfl | rfl <;> omega

theorem nums_loop {f : FuncId} (hput : ∀ (l : List Int) (n : Int), 0 ≤ n → n ≤ 18446744073709551615 → l.length ≤ 100000 → Ct Tryz.prog f sO [SL 1 (bR l), U64 n] (fun r => r = [SL 1 (bR (l ++ leb n.toNat))]))
    {e : EvD} (he : chkE e = 0) (l0 : List Int) (hl0 : l0.length ≤ 1000) {FX : Prop} (hFX : FX) {K : List (List SV) → Prop} (hK : K (bR (l0 ++ numB e))) :
    ∃ Inv : (List (List SV)) → Int → Prop, ∃ m : (List (List SV)) → Int → Nat, (Inv (bR l0) 0) ∧ (∀ l8 : List (List SV), ∀ x4 : Int, (Inv l8 x4) → ifB (ilt x4 (rlen (numL e.k e.x e.y e.z))) ((((0 : Int) ≤ x4) ∧ (x4 < (rlen (numL e.k e.x e.y e.z)))) ∧ (∃ x5 : Int, (rget (numL e.k e.x e.y e.z) x4 = [I x5]) ∧ (Cl Tryz.prog f sO [SL 1 l8, U64 (wcv IntKind.u64 x5)] (fun (rs11 : List SV) => ∃ l9 : List (List SV), (rs11 = [SL 1 l9]) ∧ (FX ∧ ((Inv l9 (wadd IntKind.i64 x4 1)) ∧ (Nat.le (Nat.succ (m l9 (wadd IntKind.i64 x4 1))) (m l8 x4)))))))) (K l8)) := by
  have hN := numI_range he
  have hlen3 : (numI e.k e.x e.y e.z).length ≤ 3 := by
    have := numI_len e.k e.x e.y e.z
    rcases many_cases e.k with h | h | h | h <;> omega
  rw [numL_numI]
  generalize hns : numI e.k e.x e.y e.z = ns at hN hlen3
  have hB : numB e = ns.flatMap fun n => leb n.toNat := by unfold numB; rw [hns]
  rw [hB] at hK
  refine ⟨fun rows x => 0 ≤ x ∧ x ≤ ns.length ∧ ∃ l1 : List Int, rows = bR l1 ∧ l1 = l0 ++ (ns.take x.toNat).flatMap (fun n => leb n.toNat) ∧ l1.length ≤ 1000 + 10 * x, fun _ x => (ns.length - x).toNat, ⟨by omega, by omega, l0, rfl, by simp, by omega⟩, ?_⟩
  rintro rows x ⟨h0, h1, l1, rfl, hl1, hll⟩
  refine ifB_intro (fun h => ?_) (fun h => ?_)
  · simp at h
    have w : wadd IntKind.i64 x 1 = x + 1 := wadd_i64 (by omega) (by omega)
    have hx : x.toNat < ns.length := by omega
    have hr := hN ns[x.toNat] (List.getElem_mem hx)
    have hb : (leb ns[x.toNat].toNat).length ≤ 10 := leb_len 9 _ (Nat.lt_of_lt_of_le (show ns[x.toNat].toNat < 2147483648 by omega) (by decide))
    refine ⟨⟨h0, by simpa using h⟩, ns[x.toNat], by simp [rget, hx], ?_⟩
    rw [wcvU64 (by omega) (by omega), w]
    refine Cl.of (hput l1 _ (by omega) (by omega) (by omega)) ⟨_, rfl, hFX, ⟨by omega, by omega, _, rfl, ?_, ?_⟩, mlt (by dsimp only; omega)⟩
    · rw [show (x + 1).toNat = x.toNat + 1 by omega, List.take_add_one, List.getElem?_eq_getElem hx, List.flatMap_append, hl1]
      simp
    · simp; omega
  · simp at h
    rw [List.take_of_length_le (by omega)] at hl1
    rw [hl1]
    exact hK

theorem dup {p : Prop} (h : p) : p ∧ p := ⟨h, h⟩

/-- What encoding comes to. -/
def encR (cs ca : Int) (l : List ByteArray) (e : EvD) : List SV :=
  if encE cs ca l e = 0 then [SL 1 (bR (encL cs ca l e)), cx3 e.s e.a (nR (bhdN l e.c)), I 0] else [SL 1 [], cx3 cs ca (nR l), I (encE cs ca l e)]

theorem encR_bad {cs ca : Int} {l : List ByteArray} {e : EvD} {n : Int} (h : encE cs ca l e = n) (hn : n ≠ 0) : [SL 1 [], cx3 cs ca (nR l), I n] = encR cs ca l e := by
  unfold encR; rw [h, if_neg hn]

theorem leb_small {n : Nat} (h : n < 18446744073709551616) : (leb n).length ≤ 10 := leb_len 9 _ (Nat.lt_of_lt_of_le h (by decide))

theorem ctxB_iff {cs ca : Int} {l : List ByteArray} : ctxB cs ca l = true ↔ (0 ≤ cs ∧ cs ≤ 4294967296 ∧ 0 ≤ ca ∧ ca ≤ 1099511627776) ∧ rgtB l = true := by simp [ctxB]

/-- The four numbers, and the name, are put. -/
theorem put4 {f g : FuncId} (hput : ∀ (l : List Int) (n : Int), 0 ≤ n → n ≤ 18446744073709551615 → l.length ≤ 100000 → Ct Tryz.prog f sO [SL 1 (bR l), U64 n] (fun r => r = [SL 1 (bR (l ++ leb n.toNat))]))
    {cs ca : Int} {l : List ByteArray} {e : EvD} (ok : EncOK cs ca l e) :
    wcv IntKind.u64 e.k = e.k ∧ wcv IntKind.u64 (wsub IntKind.i64 e.s cs) = e.s - cs ∧ wcv IntKind.u64 (wsub IntKind.i64 e.a ca) = e.a - ca ∧ wcv IntKind.u64 (plc l e.c : Int) = plc l e.c ∧ plc l e.c ≤ 32 ∧
    (leb e.k.toNat).length ≤ 10 ∧ (leb (e.s - cs).toNat).length ≤ 10 ∧ (leb (e.a - ca).toNat).length ≤ 10 ∧ (leb (plc l e.c)).length ≤ 10 := by
  obtain ⟨h1, h2, h3, h4, h5⟩ := chkE_zero ok.chk
  have hc := ctxB_iff.1 ok.ctx
  have hl := (rgtB_iff.1 hc.2).1
  have hp := plc_le (l := l) (s := e.c)
  have := ok.seq
  have := ok.time
  refine ⟨wcvU64 (by omega) (by omega), ?_, ?_, wcvU64 (by omega) (by omega), by omega, leb_small (by omega), leb_small (by omega), leb_small (by omega), leb_small (by omega)⟩
  · rw [wsub_i64 (by omega) (by omega)]; exact wcvU64 (by omega) (by omega)
  · rw [wsub_i64 (by omega) (by omega)]; exact wcvU64 (by omega) (by omega)

theorem encode_fn (cs ca : Int) (l : List ByteArray) (e : EvD) : Ct Tryz.prog 56 {} [cx3 cs ca (nR l), e.sv] (fun r => r = encR cs ca l e) := by
  refine encode_nf _ _ _ _ _ _ _ _ _ _ _ (Cl.of (cright_fn cs ca l) ⟨_, rfl, ifB_intro (fun h => ?_) (fun h => ?_)⟩)
  · simp at h
    exact encR_bad (by simp [encE, h]) (by omega)
  · simp at h
    have hl : l.length ≤ 32 := (rgtB_iff.1 (ctxB_iff.1 h).2).1
    refine Cl.of (check_fn e.s e.a e.k e.c e.x e.y e.z) ⟨_, rfl, ifB_intro (fun h1 => ?_) (fun h1 => ?_)⟩
    · simp at h1
      exact encR_bad (by simp [encE, h, chkE, h1]) h1
    · simp at h1
      have hchk : chkE e = 0 := h1
      refine ifB_intro (fun h2 => ?_) (fun h2 => ?_)
      · simp at h2
        exact encR_bad (by simp [encE, h, hchk, h2]) (by omega)
      · simp at h2
        refine ifB_intro (fun h3 => ?_) (fun h3 => ?_)
        · simp at h3
          have h2' : ¬ e.s ≤ cs := by omega
          exact encR_bad (by simp [encE, h, hchk, h2', h3]) (by omega)
        · simp at h3
          refine dup (Cl.of (clip_fn _) ⟨_, rfl, Cl.of (place_fn l e.c (by omega)) ⟨_, rfl, ?_⟩⟩)
          refine ifB_intro (fun h4 => ?_) (fun h4 => ?_)
          · simp at h4
            have h4 : plc l e.c = 0 := by omega
            refine Cl.of (nput_fn l e.c) ⟨_, _, rfl, ifB_intro (fun h5 => ?_) (fun h5 => ?_)⟩
            · simp at h5
              have h2' : ¬ e.s ≤ cs := by omega
              have h3' : ¬ e.a < ca := by omega
              exact encR_bad (by simp [encE, h, hchk, h2', h3', h4, h5]) h5
            · simp at h5
              have ok : EncOK cs ca l e := ⟨h, hchk, h2, h3, fun _ => h5⟩
              obtain ⟨w1, w2, w3, w4, w5, b1, b2, b3, b4⟩ := put4 (g := 0) putUint_fn ok
              obtain ⟨c1, c2, c3, c4, c5⟩ := chkE_zero hchk
              have hs := ok.seq
              have ht := ok.time
              have hcx := (ctxB_iff.1 h).1
              rw [w1, w2, w3, w4]
              refine Cl.of (putUint_fn [] _ (by omega) (by omega) (by simp)) ⟨_, rfl, ?_⟩
              refine Cl.of (putUint_fn _ _ (by omega) (by omega) (by simp; omega)) ⟨_, rfl, ?_⟩
              refine Cl.of (putUint_fn _ _ (by omega) (by omega) (by simp; omega)) ⟨_, rfl, ?_⟩
              refine Cl.of (putUint_fn _ _ (by omega) (by omega) (by simp; omega)) ⟨_, rfl, ?_⟩
              refine ifB_intro (fun _ => ?_) (fun h6 => by simp [h4] at h6)
              refine Cl.of (putText_fn _ _ (by simp; omega) (by omega)) ⟨_, rfl, ?_⟩
              refine Cl.of (numbers_fn _ _ _ _ _ _ _) ⟨_, rfl, ?_⟩
              have hbs : (leb e.c.size).length ≤ 10 := leb_small (by omega)
              refine nums_loop putUint_fn hchk _ (by simp [txB_len]; omega) rfl ?_
              unfold encR
              rw [if_pos (encE_zero.2 ok), putN_zero h5]
              simp [encL, bhdN, h4]
          · simp at h4
            have h4 : ¬ plc l e.c = 0 := by omega
            have ok : EncOK cs ca l e := ⟨h, hchk, h2, h3, fun h5 => absurd h5 h4⟩
            obtain ⟨w1, w2, w3, w4, w5, b1, b2, b3, b4⟩ := put4 (g := 0) putUint_fn ok
            obtain ⟨c1, c2, c3, c4, c5⟩ := chkE_zero hchk
            have hs := ok.seq
            have ht := ok.time
            have hcx := (ctxB_iff.1 h).1
            rw [w1, w2, w3, w4]
            refine Cl.of (putUint_fn [] _ (by omega) (by omega) (by simp)) ⟨_, rfl, ?_⟩
            refine Cl.of (putUint_fn _ _ (by omega) (by omega) (by simp; omega)) ⟨_, rfl, ?_⟩
            refine Cl.of (putUint_fn _ _ (by omega) (by omega) (by simp; omega)) ⟨_, rfl, ?_⟩
            refine Cl.of (putUint_fn _ _ (by omega) (by omega) (by simp; omega)) ⟨_, rfl, ?_⟩
            refine ifB_intro (fun h6 => by simp at h6; omega) (fun h6 => ?_)
            refine Cl.of (numbers_fn _ _ _ _ _ _ _) ⟨_, rfl, ?_⟩
            refine nums_loop putUint_fn hchk _ (by simp; omega) rfl ?_
            unfold encR
            rw [if_pos (encE_zero.2 ok)]
            simp [encL, bhdN, h4]

end Go.Proofs.YtbocfphenkidnaaGreatDoor.Cod

namespace Go.Proofs.YtbocfphenkidnaaGreatDoor.Cod
open Go Go.Px Go.Proofs
set_option maxRecDepth 100000
set_option linter.unusedVariables false

def bhdR (cs ca : Int) (l : List ByteArray) (e : EvD) : List SV :=
  if encE cs ca l e = 0 then [cx3 e.s e.a (nR (bhdN l e.c)), I 0] else [cx3 cs ca (nR l), I (encE cs ca l e)]

theorem bhdR_bad {cs ca : Int} {l : List ByteArray} {e : EvD} {n : Int} (h : encE cs ca l e = n) (hn : n ≠ 0) : [cx3 cs ca (nR l), I n] = bhdR cs ca l e := by
  unfold bhdR; rw [h, if_neg hn]

theorem behind_fn (cs ca : Int) (l : List ByteArray) (e : EvD) (hll : l.length ≤ 1000000) : Ct Tryz.prog 117 {} [cx3 cs ca (nR l), e.sv] (fun r => r = bhdR cs ca l e) := by
  refine behind_nf _ _ _ _ _ _ _ _ _ _ _ (Cl.of (crright_fn cs ca l hll) ⟨_, rfl, ifB_intro (fun h => ?_) (fun h => ?_)⟩)
  · simp at h
    exact bhdR_bad (by simp [encE, h]) (by omega)
  · simp at h
    refine Cl.of (rcheck_fn e.s e.a e.k e.c e.x e.y e.z) ⟨_, rfl, ifB_intro (fun h1 => ?_) (fun h1 => ?_)⟩
    · simp at h1
      exact bhdR_bad (by simp [encE, h, chkE, h1]) h1
    · simp at h1
      have hchk : chkE e = 0 := h1
      refine ifB_intro (fun h2 => ?_) (fun h2 => ?_)
      · simp at h2
        exact bhdR_bad (by simp [encE, h, hchk, h2]) (by omega)
      · simp at h2
        refine ifB_intro (fun h3 => ?_) (fun h3 => ?_)
        · simp at h3
          have h2' : ¬ e.s ≤ cs := by omega
          exact bhdR_bad (by simp [encE, h, hchk, h2', h3]) (by omega)
        · simp at h3
          refine Cl.of (rplace_fn l e.c (by omega)) ⟨_, rfl, ifB_intro (fun h4 => ?_) (fun h4 => ?_)⟩
          · simp at h4
            have h4 : plc l e.c = 0 := by omega
            refine Cl.of (rput_fn l e.c hll) ⟨_, _, rfl, ifB_intro (fun h5 => ?_) (fun h5 => ?_)⟩
            · simp at h5
              have h2' : ¬ e.s ≤ cs := by omega
              have h3' : ¬ e.a < ca := by omega
              exact bhdR_bad (by simp [encE, h, hchk, h2', h3', h4, h5]) h5
            · simp at h5
              have ok : EncOK cs ca l e := ⟨h, hchk, h2, h3, fun _ => h5⟩
              unfold bhdR
              rw [if_pos (encE_zero.2 ok), putN_zero h5]
              simp [bhdN, h4]
          · simp at h4
            have h4 : ¬ plc l e.c = 0 := by omega
            have ok : EncOK cs ca l e := ⟨h, hchk, h2, h3, fun h5 => absurd h5 h4⟩
            unfold bhdR
            rw [if_pos (encE_zero.2 ok)]
            simp [bhdN, h4]

theorem rencode_fn (cs ca : Int) (l : List ByteArray) (e : EvD) (hll : l.length ≤ 1000000) : Ct Tryz.prog 57 {} [cx3 cs ca (nR l), e.sv] (fun r => r = encR cs ca l e) := by
  have hbh := behind_fn cs ca l e hll
  refine rencode_nf _ _ _ _ _ _ _ _ _ _ _ ?_
  by_cases hE : encE cs ca l e = 0
  · have ok := encE_zero.1 hE
    have eR : bhdR cs ca l e = [cx3 e.s e.a (nR (bhdN l e.c)), I 0] := by unfold bhdR; rw [if_pos hE]
    rw [eR] at hbh
    have hchk := ok.chk
    obtain ⟨w1, w2, w3, w4, w5, b1, b2, b3, b4⟩ := put4 (g := 0) rputUint_fn ok
    obtain ⟨c1, c2, c3, c4, c5⟩ := chkE_zero hchk
    have hs := ok.seq
    have ht := ok.time
    have hcx := (ctxB_iff.1 ok.ctx).1
    refine Cl.of hbh ⟨_, _, _, _, rfl, ifB_intro (fun h => by simp at h) (fun _ => ?_)⟩
    rw [w1, w2, w3]
    refine Cl.of (rputUint_fn [] _ (by omega) (by omega) (by simp)) ⟨_, rfl, ?_⟩
    refine Cl.of (rputUint_fn _ _ (by omega) (by omega) (by simp; omega)) ⟨_, rfl, ?_⟩
    refine Cl.of (rputUint_fn _ _ (by omega) (by omega) (by simp; omega)) ⟨_, rfl, ?_⟩
    refine Cl.of (rplace_fn l e.c hll) ⟨_, rfl, ?_⟩
    rw [w4]
    refine Cl.of (rputUint_fn _ _ (by omega) (by omega) (by simp; omega)) ⟨_, rfl, ?_⟩
    refine ifB_intro (fun h6 => ?_) (fun h6 => ?_)
    · simp at h6
      have h4 : plc l e.c = 0 := by omega
      refine Cl.of (rputText_fn _ _ (by simp; omega) (by omega)) ⟨_, rfl, ?_⟩
      refine Cl.of (rnumbers_fn _ _ _ _ _ _ _) ⟨_, rfl, ?_⟩
      have hbs : (leb e.c.size).length ≤ 10 := leb_small (by omega)
      refine nums_loop rputUint_fn hchk _ (by simp [txB_len]; omega) rfl ?_
      unfold encR
      rw [if_pos hE]
      simp [encL, h4]
    · simp at h6
      have h4 : ¬ plc l e.c = 0 := by omega
      refine Cl.of (rnumbers_fn _ _ _ _ _ _ _) ⟨_, rfl, ?_⟩
      refine nums_loop rputUint_fn hchk _ (by simp; omega) rfl ?_
      unfold encR
      rw [if_pos hE]
      simp [encL, h4]
  · have eR : bhdR cs ca l e = [cx3 cs ca (nR l), I (encE cs ca l e)] := by unfold bhdR; rw [if_neg hE]
    rw [eR] at hbh
    refine Cl.of hbh ⟨_, _, _, _, rfl, ifB_intro (fun h => ?_) (fun h => by simp at h; exact absurd h hE)⟩
    exact encR_bad rfl hE

theorem flat_inj : ∀ (ns ms : List Int) (r r' : List Int), ns.length = ms.length → (∀ n ∈ ns, 0 ≤ n) → (∀ n ∈ ms, 0 ≤ n) → ns.flatMap (fun n => leb n.toNat) ++ r = ms.flatMap (fun n => leb n.toNat) ++ r' → ns = ms ∧ r = r'
  | [], [], r, r', _, _, _, h => ⟨rfl, by simpa using h⟩
  | n :: ns, m :: ms, r, r', hl, hn, hm, h => by
    simp only [List.flatMap_cons, List.append_assoc] at h
    obtain ⟨h1, h2⟩ := leb_inj _ _ _ _ h
    obtain ⟨h3, h4⟩ := flat_inj ns ms r r' (by simpa using hl) (fun x hx => hn x (by simp [hx])) (fun x hx => hm x (by simp [hx])) h2
    have a1 := hn n (by simp)
    have a2 := hm m (by simp)
    exact ⟨by rw [h3, show n = m by omega], h4⟩
  | [], _ :: _, _, _, hl, _, _, _ => by simp at hl
  | _ :: _, [], _, _, hl, _, _, _ => by simp at hl

theorem tx_inj {s t : ByteArray} (h : txB s = txB t) : s = t := by
  have := congrArg (fun l => bstr (bR l)) h
  simpa [bstr_tx] using this

/-- The numbers that a kind hasn't are 0. -/
theorem fill_nums {e : EvD} (h : chkE e = 0) : nAt (numL e.k e.x e.y e.z) 0 = e.x ∧ nAt (numL e.k e.x e.y e.z) 1 = e.y ∧ nAt (numL e.k e.x e.y e.z) 2 = e.z := by
  obtain ⟨c1, _, hv, _, _⟩ := chkE_zero h
  have c1 : manyI e.k ≠ 0 := fun hh => by have := (many0 _).1 hh; omega
  rcases many_cases e.k with h | h | h | h
  · exact absurd h c1
  · have e' : numL e.k e.x e.y e.z = [[I e.x]] := by unfold numL; rw [h]; rfl
    have := many1 h
    rw [e']
    exact ⟨rfl, by simp [nAt]; omega, by simp [nAt]; omega⟩
  · have e' : numL e.k e.x e.y e.z = [[I e.x], [I e.y]] := by unfold numL; rw [h]; rfl
    have := many2 h
    rw [e']
    exact ⟨rfl, rfl, by simp [nAt]; omega⟩
  · have e' : numL e.k e.x e.y e.z = [[I e.x], [I e.y], [I e.z]] := by unfold numL; rw [h]; rfl
    rw [e']
    exact ⟨rfl, rfl, rfl⟩

theorem enc_inj {cs ca : Int} {l : List ByteArray} {e e' : EvD} {r r' : List Int} (h : EncOK cs ca l e) (h' : EncOK cs ca l e') (he : encL cs ca l e ++ r = encL cs ca l e' ++ r') : e = e' ∧ r = r' := by
  obtain ⟨c1, c2, c3, c4, c5⟩ := chkE_zero h.chk
  obtain ⟨d1, d2, d3, d4, d5⟩ := chkE_zero h'.chk
  have := h.seq; have := h.time; have := h'.seq; have := h'.time
  unfold encL at he
  simp only [List.append_assoc] at he
  obtain ⟨g1, he⟩ := leb_inj _ _ _ _ he
  obtain ⟨g2, he⟩ := leb_inj _ _ _ _ he
  obtain ⟨g3, he⟩ := leb_inj _ _ _ _ he
  obtain ⟨g4, he⟩ := leb_inj _ _ _ _ he
  have hk : e.k = e'.k := by omega
  have key : e.c = e'.c ∧ numB e ++ r = numB e' ++ r' := by
    by_cases hp : plc l e.c = 0
    · have hp' : plc l e'.c = 0 := by omega
      rw [if_pos hp, if_pos hp'] at he
      simp only [List.append_assoc] at he
      obtain ⟨g5, he⟩ := leb_inj _ _ _ _ he
      have hlen : (txB e.c).length = (txB e'.c).length := by rw [txB_len, txB_len, g5]
      obtain ⟨g6, g7⟩ := List.append_inj he hlen
      exact ⟨tx_inj g6, g7⟩
    · have hp' : ¬ plc l e'.c = 0 := by omega
      rw [if_neg hp, if_neg hp'] at he
      obtain ⟨i, hi⟩ : ∃ i, plc l e.c = i + 1 := ⟨plc l e.c - 1, by omega⟩
      have a1 := plc_at hi
      have a2 := plc_at (g4 ▸ hi)
      rw [a1] at a2
      exact ⟨by injection a2, by simpa using he⟩
  obtain ⟨kc, kn⟩ := key
  have hl : (numI e.k e.x e.y e.z).length = (numI e'.k e'.x e'.y e'.z).length := by
    have a1 := numI_len e.k e.x e.y e.z
    have a2 := numI_len e'.k e'.x e'.y e'.z
    rw [hk] at a1
    rw [hk]; omega
  obtain ⟨kn, kr⟩ := flat_inj _ _ _ _ hl (fun n hn => (numI_range h.chk n hn).1) (fun n hn => (numI_range h'.chk n hn).1) kn
  have f1 := fill_nums h.chk
  have f2 := fill_nums h'.chk
  rw [numL_numI] at f1 f2
  rw [kn] at f1
  have ex : e.x = e'.x := f1.1.symm.trans f2.1
  have ey : e.y = e'.y := f1.2.1.symm.trans f2.2.1
  have ez : e.z = e'.z := f1.2.2.symm.trans f2.2.2
  refine ⟨?_, kr⟩
  cases e; cases e'
  simp only at *
  simp only [EvD.mk.injEq]
  exact ⟨by omega, by omega, hk, kc, ex, ey, ez⟩

abbrev ev0 : SV := ev7 0 0 0 (ByteArray.mk (Array.mk [])) 0 0 0

/-- What decoding comes to. -/
def DOut (cs ca : Int) (l : List ByteArray) (b : List Int) (r : List SV) : Prop :=
  (ctxB cs ca l = false ∧ r = [ev0, cx3 cs ca (nR l), I 1]) ∨ (ctxB cs ca l = true ∧ ((∃ e, EncOK cs ca l e ∧ encL cs ca l e = b ∧ r = [e.sv, cx3 e.s e.a (nR (bhdN l e.c)), I 0]) ∨ ((∀ e, EncOK cs ca l e → encL cs ca l e ≠ b) ∧ r = [ev0, cx3 cs ca (nR l), I 11])))

theorem DOut.none {cs ca : Int} {l : List ByteArray} {b : List Int} (hc : ctxB cs ca l = true) (h : ∀ e, EncOK cs ca l e → encL cs ca l e ≠ b) : DOut cs ca l b [ev0, cx3 cs ca (nR l), I 11] := .inr ⟨hc, .inr ⟨h, rfl⟩⟩

abbrev iR (l : List Int) : List (List SV) := l.map fun n => [I n]
theorem ints_iR (l : List Int) : Ints (iR l) := by
  intro r hr
  obtain ⟨n, _, rfl⟩ := List.mem_map.1 hr
  exact ⟨n, rfl⟩

/-- The numbers of an event are read. -/
theorem rd_loop {b : List Int} (hl : b.length ≤ 100000) (hb : Byts b) {g : Prop} {ns rest : List Int} (hns : ∀ n ∈ ns, 0 ≤ n ∧ n ≤ 2147483647) {cnt a0 er0 : Int} (hc0 : 0 ≤ cnt) (hc3 : cnt ≤ 3) (hcnt : g → cnt = ns.length)
    (hg : g → er0 = 0 ∧ 0 ≤ a0 ∧ b.drop a0.toNat = ns.flatMap (fun n => leb n.toNat) ++ rest) {FX : Prop} (hFX : FX) {K : List (List SV) → Int → Prop} (hK : ∀ ms er, (g → ms = ns ∧ er = 0) → K (iR ms) er) :
    ∃ Inv : (List (List SV)) → Int → (List (List SV)) → Int → Int → Prop, ∃ m : (List (List SV)) → Int → (List (List SV)) → Int → Int → Nat, (Inv [] 0 (bR b) a0 er0) ∧ (∀ l6 : List (List SV), ∀ x17 : Int, ∀ l7 : List (List SV), ∀ x18 : Int, ∀ x19 : Int, (Inv l6 x17 l7 x18 x19) → ifB (ilt x17 cnt) (Cl Tryz.prog 240 sP ([SV.agg [SL 1 l7, I x18, I x19], U64 2147483647]) (fun (rs7 : List SV) => ∃ l8 : List (List SV), ∃ x20 : Int, ∃ x21 : Int, ∃ x22 : Int, (rs7 = [SV.agg [SL 1 l8, I x20, I x21], I x22]) ∧ (((lsum (rlen l6) (rlen ([[I x22]]))) ≤ ((2147483648 : Int))) ∧ (FX ∧ ((Inv (rapp l6 ([[I x22]])) (wadd IntKind.i64 x17 1) l8 x20 x21) ∧ (Nat.le (Nat.succ (m (rapp l6 ([[I x22]])) (wadd IntKind.i64 x17 1) l8 x20 x21)) (m l6 x17 l7 x18 x19))))))) (K l6 x19)) := by
  refine ⟨fun rows x l7 a er => 0 ≤ x ∧ x ≤ cnt ∧ l7 = bR b ∧ ∃ ms : List Int, rows = iR ms ∧ (ms.length : Int) = x ∧ (g → er = 0 ∧ 0 ≤ a ∧ ms = ns.take x.toNat ∧ b.drop a.toNat = (ns.drop x.toNat).flatMap (fun n => leb n.toNat) ++ rest), fun _ x _ _ _ => (cnt - x).toNat, ⟨by omega, by omega, rfl, [], rfl, rfl, fun h => by simpa using hg h⟩, ?_⟩
  rintro rows x l7 a er ⟨h0, h1, rfl, ms, rfl, hml, hgo⟩
  refine ifB_intro (fun h => ?_) (fun h => ?_)
  · simp at h
    have w : wadd IntKind.i64 x 1 = x + 1 := wadd_i64 (by omega) (by omega)
    refine Cl.ofQ (upTo_fn b a er 2147483647 hl hb (by omega) (by omega)) ?_
    rintro r ⟨a', er', n, rfl, ho⟩
    rw [w]
    refine ⟨_, _, _, _, rfl, by simp; omega, hFX, ⟨by omega, by omega, rfl, ms ++ [n], by simp [rapp], by simp; omega, fun hh => ?_⟩, mlt (by dsimp only; omega)⟩
    obtain ⟨g1, g2, g3, g4⟩ := hgo hh
    have hx : x.toNat < ns.length := by have := hcnt hh; omega
    rw [List.drop_eq_getElem_cons hx, List.flatMap_cons, List.append_assoc] at g4
    have hr := hns ns[x.toNat] (List.getElem_mem hx)
    obtain ⟨q1, q2, q3⟩ := ho.good g1 g2 _ _ g4 (by omega)
    have hd := drop_more g2 g4
    refine ⟨q2, by omega, ?_, ?_⟩
    · rw [show (x + 1).toNat = x.toNat + 1 by omega, List.take_add_one, List.getElem?_eq_getElem hx, g3, q3]
      have : ((ns[x.toNat].toNat : Nat) : Int) = ns[x.toNat] := by omega
      rw [this]; rfl
    · rw [q1, hd, show (x + 1).toNat = x.toNat + 1 by omega]
  · simp at h
    refine hK ms er (fun hh => ?_)
    obtain ⟨g1, g2, g3, g4⟩ := hgo hh
    refine ⟨?_, g1⟩
    rw [g3, List.take_of_length_le (by have := hcnt hh; omega)]

end Go.Proofs.YtbocfphenkidnaaGreatDoor.Cod

namespace Go.Proofs.YtbocfphenkidnaaGreatDoor.Cod
open Go Go.Px Go.Proofs
set_option maxRecDepth 100000
set_option linter.unusedVariables false

/-- The bytes of an event, part by part. -/
theorem parts {cs ca : Int} {l : List ByteArray} {e : EvD} {b rest : List Int} (h : b = encL cs ca l e ++ rest) :
    b = leb e.k.toNat ++ (leb (e.s - cs).toNat ++ (leb (e.a - ca).toNat ++ (leb (plc l e.c) ++ ((if plc l e.c = 0 then leb e.c.size ++ txB e.c else []) ++ (numB e ++ rest))))) := by
  rw [h]; unfold encL; simp only [List.append_assoc]

theorem nmAt_plc {l : List ByteArray} {s : ByteArray} (h : plc l s ≠ 0) : nmAt l ((plc l s : Int) - 1) = s := by
  obtain ⟨i, hi⟩ : ∃ i, plc l s = i + 1 := ⟨plc l s - 1, by omega⟩
  have h1 := plc_at hi
  have hlt := (List.getElem?_eq_some_iff.1 h1).1
  have h2 := nmAt_some hlt
  rw [h1] at h2
  rw [hi, show ((i + 1 : Nat) : Int) - 1 = (i : Int) by omega]
  injection h2 with h2
  exact h2.symm

/-- Whoever reads with a guess: the event e0 with rest behind. -/
theorem read_core (cs ca : Int) (l : List ByteArray) (b : List Int) (hl : b.length ≤ 100000) (hb : Byts b) (hc : ctxB cs ca l = true) (g : Prop) (e0 : EvD) (rest : List Int) (hg : g → EncOK cs ca l e0 ∧ b = encL cs ca l e0 ++ rest) :
    Ct Tryz.prog 230 {} [cx3 cs ca (nR l), SL 1 (bR b)] (fun r => ∃ (e : EvD) (ok : Bool), r = [e.sv, B ok] ∧ (g → ok = true ∧ e = e0)) := by
  have hcx := ctxB_iff.1 hc
  have hl32 := (rgtB_iff.1 hcx.2).1
  -- what the guess says of the parts
  have G : g → EncOK cs ca l e0 ∧ ((1 ≤ e0.k ∧ e0.k ≤ 10) ∧ (1 ≤ e0.c.size ∧ e0.c.size ≤ 24) ∧ (0 ≤ e0.a ∧ e0.a ≤ 1099511627776) ∧ (0 ≤ e0.s ∧ e0.s ≤ 4294967296)) ∧ cs < e0.s ∧ ca ≤ e0.a ∧ plc l e0.c ≤ 32 ∧ b.drop (0 : Int).toNat = leb e0.k.toNat ++ (leb (e0.s - cs).toNat ++ (leb (e0.a - ca).toNat ++ (leb (plc l e0.c) ++ ((if plc l e0.c = 0 then leb e0.c.size ++ txB e0.c else []) ++ (numB e0 ++ rest))))) := by
    intro h
    obtain ⟨ok, hbe⟩ := hg h
    obtain ⟨c1, c2, c3, c4, c5⟩ := chkE_zero ok.chk
    have := plc_le (l := l) (s := e0.c)
    exact ⟨ok, ⟨c1, c2, c4, c5⟩, ok.seq, ok.time, by omega, by simpa using parts hbe⟩
  have hns : g → ∀ n ∈ numI e0.k e0.x e0.y e0.z, 0 ≤ n ∧ n ≤ 2147483647 := fun h => numI_range (G h).1.chk
  refine read_nf _ _ _ _ _ (Cl.of (start_fn b) ⟨_, _, _, rfl, ?_⟩)
  refine Cl.ofQ (upTo_fn b 0 0 10 hl hb (by omega) (by omega)) ?_
  rintro r ⟨a1, er1, n1, rfl, o1⟩
  refine ⟨_, _, _, _, rfl, ?_⟩
  refine Cl.ofQ (upTo_fn b a1 er1 4294967296 hl hb (by omega) (by omega)) ?_
  rintro r ⟨a2, er2, n2, rfl, o2⟩
  refine ⟨_, _, _, _, rfl, ?_⟩
  refine Cl.ofQ (upTo_fn b a2 er2 1099511627776 hl hb (by omega) (by omega)) ?_
  rintro r ⟨a3, er3, n3, rfl, o3⟩
  refine ⟨_, _, _, _, rfl, ?_⟩
  refine Cl.ofQ (upTo_fn b a3 er3 32 hl hb (by omega) (by omega)) ?_
  rintro r ⟨a4, er4, n4, rfl, o4⟩
  refine ⟨_, _, _, _, rfl, ?_⟩
  have G1 : g → 0 ≤ a1 ∧ er1 = 0 ∧ n1 = e0.k ∧ b.drop a1.toNat = leb (e0.s - cs).toNat ++ (leb (e0.a - ca).toNat ++ (leb (plc l e0.c) ++ ((if plc l e0.c = 0 then leb e0.c.size ++ txB e0.c else []) ++ (numB e0 ++ rest)))) := by
    intro h
    obtain ⟨_, _, _, _, _, hd⟩ := G h
    obtain ⟨q1, q2, q3⟩ := o1.good rfl (by omega) _ _ hd (by omega)
    have := drop_more (by omega) hd
    rw [← q1] at this
    exact ⟨by omega, q2, by omega, this⟩
  have G2 : g → 0 ≤ a2 ∧ er2 = 0 ∧ n2 = e0.s - cs ∧ b.drop a2.toNat = leb (e0.a - ca).toNat ++ (leb (plc l e0.c) ++ ((if plc l e0.c = 0 then leb e0.c.size ++ txB e0.c else []) ++ (numB e0 ++ rest))) := by
    intro h
    obtain ⟨_, _, _, _, _, _⟩ := G h
    obtain ⟨p0, p1, _, hd⟩ := G1 h
    obtain ⟨q1, q2, q3⟩ := o2.good p1 p0 _ _ hd (by omega)
    have := drop_more p0 hd
    rw [← q1] at this
    exact ⟨by omega, q2, by omega, this⟩
  have G3 : g → 0 ≤ a3 ∧ er3 = 0 ∧ n3 = e0.a - ca ∧ b.drop a3.toNat = leb (plc l e0.c) ++ ((if plc l e0.c = 0 then leb e0.c.size ++ txB e0.c else []) ++ (numB e0 ++ rest)) := by
    intro h
    obtain ⟨_, _, _, _, _, _⟩ := G h
    obtain ⟨p0, p1, _, hd⟩ := G2 h
    obtain ⟨q1, q2, q3⟩ := o3.good p1 p0 _ _ hd (by omega)
    have := drop_more p0 hd
    rw [← q1] at this
    exact ⟨by omega, q2, by omega, this⟩
  have G4 : g → 0 ≤ a4 ∧ er4 = 0 ∧ n4 = plc l e0.c ∧ b.drop a4.toNat = (if plc l e0.c = 0 then leb e0.c.size ++ txB e0.c else []) ++ (numB e0 ++ rest) := by
    intro h
    obtain ⟨_, _, _, _, _, _⟩ := G h
    obtain ⟨p0, p1, _, hd⟩ := G3 h
    obtain ⟨q1, q2, q3⟩ := o4.good p1 p0 _ _ hd (by omega)
    have := drop_more p0 hd
    rw [← q1] at this
    exact ⟨by omega, q2, by omega, this⟩
  -- the end, with the name and the numbers
  have o10 := o1.n0
  have o11 := o1.n1
  have fin : ∀ (s : ByteArray) (ms : List Int) (er : Int), (g → s = e0.c) → (g → ms = numI e0.k e0.x e0.y e0.z ∧ er = 0) →
      Cl Tryz.prog 242 sP ([SV.agg [I (wadd IntKind.i64 cs n2), I (wadd IntKind.i64 ca n3), I n1, S s, I 0, I 0, I 0], SL 1 (iR ms)]) (fun (rs7 : List SV) => ∃ x20 : Int, ∃ x21 : Int, ∃ x22 : Int, ∃ s1 : ByteArray, ∃ x23 : Int, ∃ x24 : Int, ∃ x25 : Int, (rs7 = [SV.agg [I x20, I x21, I x22, S s1, I x23, I x24, I x25]]) ∧ (∃ (e : EvD) (ok : Bool), ([SV.agg [I x20, I x21, I x22, S s1, I x23, I x24, I x25], B (ieq er 0)] : List SV) = [e.sv, B ok] ∧ (g → ok = true ∧ e = e0))) := by
    intro s ms er hs hm
    refine Cl.of (fill_fn _ _ _ _ _ _ _ _ (ints_iR ms)) ⟨_, _, _, _, _, _, _, rfl, ⟨wadd IntKind.i64 cs n2, wadd IntKind.i64 ca n3, n1, s, nAt (iR ms) 0, nAt (iR ms) 1, nAt (iR ms) 2⟩, _, rfl, fun h => ?_⟩
    obtain ⟨ok, _, _, _, _, _⟩ := G h
    obtain ⟨_, _, e1, _⟩ := G1 h
    obtain ⟨_, _, e2, _⟩ := G2 h
    obtain ⟨_, _, e3, _⟩ := G3 h
    obtain ⟨e4, e5⟩ := hm h
    have hf := fill_nums ok.chk
    rw [numL_numI, ← e4] at hf
    refine ⟨by simp [e5], ?_⟩
    rw [wadd_i64 (by omega) (by omega), wadd_i64 (by omega) (by omega)]
    have hs := hs h
    obtain ⟨f1, f2, f3⟩ := hf
    obtain ⟨s0, a0, k0, c0, x0, y0, z0⟩ := e0
    simp only [EvD.mk.injEq]
    simp only at *
    exact ⟨by omega, by omega, e1, hs, f1, f2, f3⟩
  have loop : ∀ (s : ByteArray) (a er : Int) {FX : Prop}, FX → (g → s = e0.c) → (g → er = 0 ∧ 0 ≤ a ∧ b.drop a.toNat = numB e0 ++ rest) →
      Cl Tryz.prog 183 sP [I n1] (fun (rs6 : List SV) => ∃ x16 : Int, (rs6 = [I x16]) ∧ (∃ Inv : (List (List SV)) → Int → (List (List SV)) → Int → Int → Prop, ∃ m : (List (List SV)) → Int → (List (List SV)) → Int → Int → Nat, (Inv [] 0 (bR b) a er) ∧ (∀ l6 : List (List SV), ∀ x17 : Int, ∀ l7 : List (List SV), ∀ x18 : Int, ∀ x19 : Int, (Inv l6 x17 l7 x18 x19) → ifB (ilt x17 x16) (Cl Tryz.prog 240 sP ([SV.agg [SL 1 l7, I x18, I x19], U64 2147483647]) (fun (rs7 : List SV) => ∃ l8 : List (List SV), ∃ x20 : Int, ∃ x21 : Int, ∃ x22 : Int, (rs7 = [SV.agg [SL 1 l8, I x20, I x21], I x22]) ∧ (((lsum (rlen l6) (rlen ([[I x22]]))) ≤ ((2147483648 : Int))) ∧ (FX ∧ ((Inv (rapp l6 ([[I x22]])) (wadd IntKind.i64 x17 1) l8 x20 x21) ∧ (Nat.le (Nat.succ (m (rapp l6 ([[I x22]])) (wadd IntKind.i64 x17 1) l8 x20 x21)) (m l6 x17 l7 x18 x19))))))) (Cl Tryz.prog 242 sP ([SV.agg [I (wadd IntKind.i64 cs n2), I (wadd IntKind.i64 ca n3), I n1, S s, I 0, I 0, I 0], SL 1 l6]) (fun (rs7 : List SV) => ∃ x20 : Int, ∃ x21 : Int, ∃ x22 : Int, ∃ s1 : ByteArray, ∃ x23 : Int, ∃ x24 : Int, ∃ x25 : Int, (rs7 = [SV.agg [I x20, I x21, I x22, S s1, I x23, I x24, I x25]]) ∧ (∃ (e : EvD) (ok : Bool), ([SV.agg [I x20, I x21, I x22, S s1, I x23, I x24, I x25], B (ieq x19 0)] : List SV) = [e.sv, B ok] ∧ (g → ok = true ∧ e = e0))))))) := by
    intro s a er FX hFX hs hd
    refine Cl.of (many_fn n1) ⟨_, rfl, ?_⟩
    have hm : 0 ≤ manyI n1 ∧ manyI n1 ≤ 3 := by rcases many_cases n1 with h | h | h | h <;> omega
    by_cases hgg : g
    · exact rd_loop hl hb (g := g) (ns := numI e0.k e0.x e0.y e0.z) (rest := rest) (hns hgg) hm.1 hm.2 (fun h => by rw [numI_len, (G1 h).2.2.1]) hd hFX (fun ms er' h => fin s ms er' hs h)
    · exact rd_loop hl hb (g := g) (ns := []) (rest := rest) (by simp) hm.1 hm.2 (fun h => absurd h hgg) (fun h => absurd h hgg) hFX (fun ms er' h => fin s ms er' hs (fun h => absurd h hgg))
  refine ifB_intro (fun h => ?_) (fun h => ?_)
  · simp at h
    refine Cl.ofQ (text_fn b a4 er4 hl hb) ?_
    rintro r ⟨a5, er5, s, rfl, o5⟩
    refine ⟨_, _, _, _, rfl, ?_⟩
    have G5 : g → a5 = a4 + (leb e0.c.size).length + e0.c.size ∧ er5 = 0 ∧ s = e0.c ∧ 0 ≤ a5 ∧ b.drop a5.toNat = numB e0 ++ rest := by
      intro hh
      obtain ⟨ok, c, _⟩ := G hh
      obtain ⟨p0, p1, p2, hd⟩ := G4 hh
      have hp : plc l e0.c = 0 := by omega
      rw [if_pos hp, List.append_assoc] at hd
      obtain ⟨q1, q2, q3⟩ := o5.good p1 p0 _ _ hd c.2.1.2
      have d1 := drop_more p0 hd
      have d2 := drop_more (by omega) d1
      rw [txB_len, ← q1] at d2
      exact ⟨q1, q2, q3, by omega, d2⟩
    exact loop s a5 er5 rfl (fun hh => (G5 hh).2.2.1) (fun hh => ⟨(G5 hh).2.1, (G5 hh).2.2.2.1, (G5 hh).2.2.2.2⟩)
  · simp at h
    have := o4.n0
    have := o4.n1
    have G6 : g → er4 = 0 ∧ 0 ≤ a4 ∧ b.drop a4.toNat = numB e0 ++ rest := by
      intro hh
      obtain ⟨p0, p1, p2, hd⟩ := G4 hh
      have hp : ¬ plc l e0.c = 0 := by omega
      rw [if_neg hp] at hd
      exact ⟨p1, p0, by simpa using hd⟩
    have hnat := nat_fn l n4 (by omega) (by omega)
    by_cases hin : 1 ≤ n4 ∧ n4 ≤ l.length
    · rw [if_pos hin] at hnat
      refine Cl.of hnat ⟨_, _, rfl, ifB_intro (fun _ => ?_) (fun h => by simp at h)⟩
      refine loop _ a4 er4 rfl (fun hh => ?_) G6
      obtain ⟨_, _, p2, _⟩ := G4 hh
      rw [p2]
      exact nmAt_plc (by omega)
    · rw [if_neg hin] at hnat
      refine Cl.of hnat ⟨_, _, rfl, ifB_intro (fun h => by simp at h) (fun _ => ?_)⟩
      refine loop _ a4 er4 rfl (fun hh => ?_) G6
      obtain ⟨_, _, p2, _⟩ := G4 hh
      have := plc_le (l := l) (s := e0.c)
      omega

theorem byts_enc {cs ca : Int} {l : List ByteArray} {e : EvD} : Byts (encL cs ca l e) := by
  unfold encL numB
  refine Byts.app (Byts.app (Byts.app (Byts.app (Byts.app (byts_leb _) (byts_leb _)) (byts_leb _)) (byts_leb _)) ?_) ?_
  · split
    · exact Byts.app (byts_leb _) (byts_tx _)
    · intro x hx; simp at hx
  · intro x hx
    obtain ⟨n, _, hn⟩ := List.mem_flatMap.1 hx
    exact byts_leb _ x hn

theorem decode_fn (cs ca : Int) (l : List ByteArray) (b : List Int) (hl : b.length ≤ 100000) (hb : Byts b) : Ct Tryz.prog 198 {} [cx3 cs ca (nR l), SL 1 (bR b)] (DOut cs ca l b) := by
  refine decode_nf _ _ _ _ _ (Cl.of (cright_fn cs ca l) ⟨_, rfl, ifB_intro (fun h => ?_) (fun h => ?_)⟩)
  · simp at h
    exact .inl ⟨h, rfl⟩
  · simp at h
    -- is there such an event?
    obtain ⟨g, e0, hg, hno⟩ : ∃ (g : Prop) (e0 : EvD), (g → EncOK cs ca l e0 ∧ b = encL cs ca l e0 ++ []) ∧ (¬ g → ∀ e, EncOK cs ca l e → encL cs ca l e ≠ b) := by
      by_cases hex : ∃ e, EncOK cs ca l e ∧ encL cs ca l e = b
      · obtain ⟨e, h1, h2⟩ := hex
        exact ⟨True, e, fun _ => ⟨h1, by simp [h2]⟩, fun hn => absurd trivial hn⟩
      · exact ⟨False, ⟨0, 0, 0, ByteArray.empty, 0, 0, 0⟩, fun hf => hf.elim, fun _ e h1 h2 => hex ⟨e, h1, h2⟩⟩
    refine Cl.ofQ (read_core cs ca l b hl hb h g e0 [] hg) ?_
    rintro r ⟨e, ok, rfl, hok⟩
    refine ⟨_, _, _, _, _, _, _, _, rfl, ifB_intro (fun h1 => ?_) (fun h1 => ?_)⟩
    · simp at h1
      exact DOut.none h (hno (fun hgg => by rw [(hok hgg).1] at h1; cases h1))
    · have he := encode_fn cs ca l e
      by_cases hE : encE cs ca l e = 0
      · unfold encR at he
        rw [if_pos hE] at he
        refine Cl.of he ⟨_, _, _, _, _, rfl, ifB_intro (fun h2 => by simp at h2) (fun _ => ?_)⟩
        refine Cl.of (bequal_fn _ _ byts_enc hb) ⟨_, rfl, ifB_intro (fun h3 => ?_) (fun h3 => ?_)⟩
        · simp at h3
          refine DOut.none h (hno (fun hgg => ?_))
          obtain ⟨h4, h5⟩ := hg hgg
          rw [(hok hgg).2] at h3
          exact h3 (by simpa using h5.symm)
        · simp at h3
          exact .inr ⟨h, .inl ⟨e, encE_zero.1 hE, h3, rfl⟩⟩
      · unfold encR at he
        rw [if_neg hE] at he
        refine Cl.of he ⟨_, _, _, _, _, rfl, ifB_intro (fun _ => ?_) (fun h2 => by simp at h2; exact absurd h2 hE)⟩
        refine DOut.none h (hno (fun hgg => ?_))
        obtain ⟨h4, h5⟩ := hg hgg
        rw [(hok hgg).2] at hE
        exact hE (encE_zero.2 h4)

end Go.Proofs.YtbocfphenkidnaaGreatDoor.Cod

namespace Go.Proofs.YtbocfphenkidnaaGreatDoor.Cod
open Go Go.Px Go.Proofs
set_option maxRecDepth 100000
set_option linter.unusedVariables false

theorem rdecode_fn (cs ca : Int) (l : List ByteArray) (b : List Int) (hl : b.length ≤ 100000) (hb : Byts b) (hll : l.length ≤ 1000000) : Ct Tryz.prog 66 {} [cx3 cs ca (nR l), SL 1 (bR b)] (DOut cs ca l b) := by
  refine rdecode_nf _ _ _ _ _ (Cl.of (crright_fn cs ca l hll) ⟨_, rfl, ifB_intro (fun h => ?_) (fun h => ?_)⟩)
  · simp at h
    exact .inl ⟨h, rfl⟩
  · simp at h
    have hcx := ctxB_iff.1 h
    have hl32 := (rgtB_iff.1 hcx.2).1
    obtain ⟨g, e0, hg, hno⟩ : ∃ (g : Prop) (e0 : EvD), (g → EncOK cs ca l e0 ∧ b = encL cs ca l e0 ++ []) ∧ (¬ g → ∀ e, EncOK cs ca l e → encL cs ca l e ≠ b) := by
      by_cases hex : ∃ e, EncOK cs ca l e ∧ encL cs ca l e = b
      · obtain ⟨e, h1, h2⟩ := hex
        exact ⟨True, e, fun _ => ⟨h1, by simp [h2]⟩, fun hn => absurd trivial hn⟩
      · exact ⟨False, ⟨0, 0, 0, ByteArray.empty, 0, 0, 0⟩, fun hf => hf.elim, fun _ e h1 h2 => hex ⟨e, h1, h2⟩⟩
    have Q11 : ¬ g → DOut cs ca l b [ev0, cx3 cs ca (nR l), I 11] := fun hn => DOut.none h (hno hn)
    have G : g → EncOK cs ca l e0 ∧ ((1 ≤ e0.k ∧ e0.k ≤ 10) ∧ (1 ≤ e0.c.size ∧ e0.c.size ≤ 24) ∧ (0 ≤ e0.a ∧ e0.a ≤ 1099511627776) ∧ (0 ≤ e0.s ∧ e0.s ≤ 4294967296)) ∧ cs < e0.s ∧ ca ≤ e0.a ∧ plc l e0.c ≤ l.length ∧ b = leb e0.k.toNat ++ (leb (e0.s - cs).toNat ++ (leb (e0.a - ca).toNat ++ (leb (plc l e0.c) ++ ((if plc l e0.c = 0 then leb e0.c.size ++ txB e0.c else []) ++ (numB e0 ++ []))))) := by
      intro h
      obtain ⟨ok, hbe⟩ := hg h
      obtain ⟨c1, c2, c3, c4, c5⟩ := chkE_zero ok.chk
      exact ⟨ok, ⟨c1, c2, c4, c5⟩, ok.seq, ok.time, plc_le, parts hbe⟩
    -- the numbers of the event, and the end
    have loop2 : ∀ (s : ByteArray) (a er n0 n1 n2 : Int) {FX : Prop}, FX → 0 ≤ n0 → n0 ≤ 10 → 0 ≤ n1 → n1 ≤ 4294967296 → 0 ≤ n2 → n2 ≤ 1099511627776 → (g → s = e0.c ∧ n0 = e0.k ∧ n1 = e0.s - cs ∧ n2 = e0.a - ca) → (g → er = 0 ∧ 0 ≤ a ∧ b.drop a.toNat = numB e0 ++ []) →
        Cl Tryz.prog 132 sP [I (wcv IntKind.i64 n0)] (fun (rs1 : List SV) => ∃ x7 : Int, (rs1 = [I x7]) ∧ (∃ Inv1 : Int → (List (List SV)) → Int → Int → Int → Int → Int → ByteArray → Int → Int → Int → Prop, ∃ m1 : Int → (List (List SV)) → Int → Int → Int → Int → Int → ByteArray → Int → Int → Int → Nat, (Inv1 0 (bR b) a er (wadd IntKind.i64 cs (wcv IntKind.i64 n1)) (wadd IntKind.i64 ca (wcv IntKind.i64 n2)) (wcv IntKind.i64 n0) s 0 0 0) ∧ (∀ x8 : Int, ∀ l1 : List (List SV), ∀ x9 : Int, ∀ x10 : Int, ∀ x11 : Int, ∀ x12 : Int, ∀ x13 : Int, ∀ s1 : ByteArray, ∀ x14 : Int, ∀ x15 : Int, ∀ x16 : Int, (Inv1 x8 l1 x9 x10 x11 x12 x13 s1 x14 x15 x16) → ifB (ilt x8 x7) (Cl Tryz.prog 130 sP ([SV.agg [SL 1 l1, I x9, I x10]]) (fun (rs2 : List SV) => ∃ l2 : List (List SV), ∃ x17 : Int, ∃ x18 : Int, ∃ x19 : Int, (rs2 = [SV.agg [SL 1 l2, I x17, I x18], U64 x19]) ∧ (ifB (igt x19 2147483647) (DOut cs ca l b ([SV.agg ([I 0, I 0, I 0, S (ByteArray.mk (Array.mk [])), I 0, I 0, I 0]), SV.agg [I cs, I ca, SL 1 (nR l)], I 11])) (ifB (ieq x8 0) (FX ∧ ((Inv1 (wadd IntKind.i64 x8 1) l2 x17 x18 x11 x12 x13 s1 (wcv IntKind.i64 x19) x15 x16) ∧ (Nat.le (Nat.succ (m1 (wadd IntKind.i64 x8 1) l2 x17 x18 x11 x12 x13 s1 (wcv IntKind.i64 x19) x15 x16)) (m1 x8 l1 x9 x10 x11 x12 x13 s1 x14 x15 x16)))) (ifB (ieq x8 1) (FX ∧ ((Inv1 (wadd IntKind.i64 x8 1) l2 x17 x18 x11 x12 x13 s1 x14 (wcv IntKind.i64 x19) x16) ∧ (Nat.le (Nat.succ (m1 (wadd IntKind.i64 x8 1) l2 x17 x18 x11 x12 x13 s1 x14 (wcv IntKind.i64 x19) x16)) (m1 x8 l1 x9 x10 x11 x12 x13 s1 x14 x15 x16)))) (FX ∧ ((Inv1 (wadd IntKind.i64 x8 1) l2 x17 x18 x11 x12 x13 s1 x14 x15 (wcv IntKind.i64 x19)) ∧ (Nat.le (Nat.succ (m1 (wadd IntKind.i64 x8 1) l2 x17 x18 x11 x12 x13 s1 x14 x15 (wcv IntKind.i64 x19))) (m1 x8 l1 x9 x10 x11 x12 x13 s1 x14 x15 x16))))))))) (Cl Tryz.prog 57 sP ([SV.agg [I cs, I ca, SL 1 (nR l)], SV.agg [I x11, I x12, I x13, S s1, I x14, I x15, I x16]]) (fun (rs2 : List SV) => ∃ l2 : List (List SV), ∃ x17 : Int, ∃ x18 : Int, ∃ l3 : List (List SV), ∃ x19 : Int, (rs2 = [SL 1 l2, SV.agg [I x17, I x18, SL 1 l3], I x19]) ∧ (ifB (bpick (ine x10 0) true (ine x19 0)) (DOut cs ca l b ([SV.agg ([I 0, I 0, I 0, S (ByteArray.mk (Array.mk [])), I 0, I 0, I 0]), SV.agg [I cs, I ca, SL 1 (nR l)], I 11])) ((isBytes l2) ∧ ((isBytes (bR b)) ∧ (ifB (bpick false true (sne (bstr l2) (bstr (bR b)))) (DOut cs ca l b ([SV.agg ([I 0, I 0, I 0, S (ByteArray.mk (Array.mk [])), I 0, I 0, I 0]), SV.agg [I cs, I ca, SL 1 (nR l)], I 11])) (DOut cs ca l b ([SV.agg [I x11, I x12, I x13, S s1, I x14, I x15, I x16], SV.agg [I x17, I x18, SL 1 l3], I 0]))))))))))) := by
      intro s a er n0 n1 n2 FX hFX p0 p1 p2 p3 p4 p5 hs hd
      rw [wcvI64 (by omega) (by omega), wcvI64 (by omega) (by omega), wcvI64 (by omega) (by omega), wadd_i64 (by omega) (by omega), wadd_i64 (by omega) (by omega)]
      refine Cl.of (rmany_fn n0) ⟨_, rfl, ?_⟩
      have hm : 0 ≤ manyI n0 ∧ manyI n0 ≤ 3 := by rcases many_cases n0 with h | h | h | h <;> omega
      have hcnt : g → manyI n0 = (numI e0.k e0.x e0.y e0.z).length := fun hh => by rw [numI_len, (hs hh).2.1]
      have hns : g → ∀ n ∈ numI e0.k e0.x e0.y e0.z, 0 ≤ n ∧ n ≤ 2147483647 := fun hh => numI_range (G hh).1.chk
      refine ⟨fun i rows a er s' a' k' c' x y z => 0 ≤ i ∧ i ≤ manyI n0 ∧ rows = bR b ∧ s' = cs + n1 ∧ a' = ca + n2 ∧ k' = n0 ∧ c' = s ∧ (g → er = 0 ∧ 0 ≤ a ∧ b.drop a.toNat = ((numI e0.k e0.x e0.y e0.z).drop i.toNat).flatMap (fun n => leb n.toNat) ∧ x = ((numI e0.k e0.x e0.y e0.z).take i.toNat).getD 0 0 ∧ y = ((numI e0.k e0.x e0.y e0.z).take i.toNat).getD 1 0 ∧ z = ((numI e0.k e0.x e0.y e0.z).take i.toNat).getD 2 0),
        fun i _ _ _ _ _ _ _ _ _ _ => (manyI n0 - i).toNat, ⟨by omega, by omega, rfl, rfl, rfl, rfl, rfl, fun hh => ?_⟩, ?_⟩
      · obtain ⟨q1, q2, q3⟩ := hd hh
        exact ⟨q1, q2, by simpa [numB] using q3, by simp, by simp, by simp⟩
      rintro i rows a1 er1 s' a' k' c' x y z ⟨i0, i1, rfl, rfl, rfl, rfl, rfl, hgo⟩
      refine ifB_intro (fun hi => ?_) (fun hi => ?_)
      · simp at hi
        have w : wadd IntKind.i64 i 1 = i + 1 := wadd_i64 (by omega) (by omega)
        refine Cl.ofQ (ruint_fn b a1 er1 hl hb) ?_
        rintro r ⟨a2, er2, n, rfl, ho⟩
        have hn0 := ho.n0
        have good : g → (n : Int) ≤ 2147483647 ∧ er2 = 0 ∧ 0 ≤ a2 ∧ b.drop a2.toNat = ((numI e0.k e0.x e0.y e0.z).drop (i + 1).toNat).flatMap (fun n => leb n.toNat) ∧ (numI e0.k e0.x e0.y e0.z).take (i + 1).toNat = (numI e0.k e0.x e0.y e0.z).take i.toNat ++ [n] ∧ ((numI e0.k e0.x e0.y e0.z).take i.toNat).length = i.toNat := by
          intro hh
          obtain ⟨g1, g2, g3, _⟩ := hgo hh
          have hx : i.toNat < (numI e0.k e0.x e0.y e0.z).length := by have := hcnt hh; omega
          have hr := hns hh _ (List.getElem_mem hx)
          rw [List.drop_eq_getElem_cons hx, List.flatMap_cons] at g3
          obtain ⟨q1, q2, q3⟩ := ho.good g1 g2 _ _ g3 (by omega)
          have hdm := drop_more g2 g3
          have e1 : (i + 1).toNat = i.toNat + 1 := by omega
          refine ⟨by omega, q2, by omega, by rw [q1, hdm, e1], ?_, by rw [List.length_take]; omega⟩
          rw [e1, List.take_add_one, List.getElem?_eq_getElem hx, q3]
          have : (((numI e0.k e0.x e0.y e0.z)[i.toNat].toNat : Nat) : Int) = (numI e0.k e0.x e0.y e0.z)[i.toNat] := by omega
          rw [this]; rfl
        refine ⟨_, _, _, _, rfl, ifB_intro (fun hbig => ?_) (fun hbig => ?_)⟩
        · simp at hbig
          exact Q11 (fun hh => by have := (good hh).1; omega)
        · simp at hbig
          rw [w, wcvI64 (by omega) (by omega)]
          refine ifB_intro (fun hi0 => ?_) (fun hi0 => ?_)
          · simp at hi0
            refine ⟨hFX, ⟨by omega, by omega, rfl, rfl, rfl, rfl, rfl, fun hh => ?_⟩, mlt (by dsimp only; omega)⟩
            obtain ⟨_, q2, q3, q4, q5, q6⟩ := good hh
            obtain ⟨_, _, _, y1, y2, y3⟩ := hgo hh
            refine ⟨q2, q3, q4, ?_, ?_, ?_⟩ <;> rw [q5]
            · simp [hi0]
            · simp [y2, hi0]
            · simp [y3, hi0]
          · simp at hi0
            refine ifB_intro (fun hi1 => ?_) (fun hi1 => ?_)
            · simp at hi1
              refine ⟨hFX, ⟨by omega, by omega, rfl, rfl, rfl, rfl, rfl, fun hh => ?_⟩, mlt (by dsimp only; omega)⟩
              obtain ⟨_, q2, q3, q4, q5, q6⟩ := good hh
              obtain ⟨_, _, _, y1, y2, y3⟩ := hgo hh
              generalize (numI e0.k e0.x e0.y e0.z).take i.toNat = pre at *
              obtain ⟨p, rfl⟩ : ∃ p, pre = [p] := by
                match pre, q6 with
                | [p], _ => exact ⟨p, rfl⟩
                | [], q => simp at q; omega
                | _ :: _ :: _, q => simp at q; omega
              refine ⟨q2, q3, q4, ?_, ?_, ?_⟩ <;> rw [q5]
              · simpa using y1
              · simp
              · simpa using y3
            · simp at hi1
              refine ⟨hFX, ⟨by omega, by omega, rfl, rfl, rfl, rfl, rfl, fun hh => ?_⟩, mlt (by dsimp only; omega)⟩
              obtain ⟨_, q2, q3, q4, q5, q6⟩ := good hh
              obtain ⟨_, _, _, y1, y2, y3⟩ := hgo hh
              generalize (numI e0.k e0.x e0.y e0.z).take i.toNat = pre at *
              obtain ⟨p, p', rfl⟩ : ∃ p p', pre = [p, p'] := by
                match pre, q6 with
                | [p, p'], _ => exact ⟨p, p', rfl⟩
                | [], q => simp at q; omega
                | [_], q => simp at q; omega
                | _ :: _ :: _ :: _, q => simp at q; omega
              refine ⟨q2, q3, q4, ?_, ?_, ?_⟩ <;> rw [q5]
              · simpa using y1
              · simpa using y2
              · simp
      · simp at hi
        have eq0 : g → er1 = 0 ∧ (⟨cs + n1, ca + n2, k', c', x, y, z⟩ : EvD) = e0 := by
          intro hh
          obtain ⟨q1, _, _, y1, y2, y3⟩ := hgo hh
          obtain ⟨z1, z2, z3, z4⟩ := hs hh
          have hlen : (numI e0.k e0.x e0.y e0.z).take i.toNat = numI e0.k e0.x e0.y e0.z := List.take_of_length_le (by have := hcnt hh; omega)
          rw [hlen] at y1 y2 y3
          have hf := fill_nums (G hh).1.chk
          rw [numL_numI] at hf
          have hat : ∀ (ns : List Int) (j : Nat), nAt (ns.map fun n => [I n]) j = ns.getD j 0 := by
            intro ns j
            unfold nAt
            rw [List.getElem?_map]
            cases hj : ns[j]? with
            | none => simp [hj]
            | some v => simp [hj]
          rw [hat, hat, hat] at hf
          refine ⟨q1, ?_⟩
          obtain ⟨s0, a0, k0, c0, x0, y0, z0⟩ := e0
          simp only [EvD.mk.injEq]
          simp only at *
          exact ⟨by omega, by omega, z2, z1, by rw [y1]; exact hf.1, by rw [y2]; exact hf.2.1, by rw [y3]; exact hf.2.2⟩
        have he := rencode_fn cs ca l ⟨cs + n1, ca + n2, k', c', x, y, z⟩ hll
        by_cases hE : encE cs ca l ⟨cs + n1, ca + n2, k', c', x, y, z⟩ = 0
        · unfold encR at he
          rw [if_pos hE] at he
          refine Cl.of he ⟨_, _, _, _, _, rfl, ifB_intro (fun h2 => ?_) (fun _ => ⟨isBytes_bR byts_enc, isBytes_bR hb, ?_⟩)⟩
          · refine Q11 (fun hh => ?_)
            have := (eq0 hh).1
            simp [this] at h2
          · rw [sne_d]
            refine ifB_intro (fun h3 => ?_) (fun h3 => ?_)
            · simp [bstr_inj byts_enc hb] at h3
              refine Q11 (fun hh => ?_)
              obtain ⟨h4, h5⟩ := hg hh
              rw [(eq0 hh).2] at h3
              exact h3 (by simpa using h5.symm)
            · simp [bstr_inj byts_enc hb] at h3
              exact .inr ⟨h, .inl ⟨_, encE_zero.1 hE, h3, rfl⟩⟩
        · unfold encR at he
          rw [if_neg hE] at he
          refine Cl.of he ⟨_, _, _, _, _, rfl, ifB_intro (fun _ => ?_) (fun h2 => ?_)⟩
          · refine Q11 (fun hh => ?_)
            rw [(eq0 hh).2] at hE
            exact hE (encE_zero.2 (hg hh).1)
          · simp only [bor_f, ine_eq, Bool.not_eq_false', decide_eq_true_eq] at h2
            exact absurd h2.2 hE
    -- the first four numbers
    refine ⟨fun i rows a er n0 n1 n2 n3 => 0 ≤ i ∧ i ≤ 4 ∧ rows = bR b ∧ (0 ≤ n0 ∧ n0 ≤ 18446744073709551615) ∧ (0 ≤ n1 ∧ n1 ≤ 18446744073709551615) ∧ (0 ≤ n2 ∧ n2 ≤ 18446744073709551615) ∧ (0 ≤ n3 ∧ n3 ≤ 18446744073709551615) ∧
        (g → er = 0 ∧ 0 ≤ a ∧ (i = 0 → b.drop a.toNat = leb e0.k.toNat ++ (leb (e0.s - cs).toNat ++ (leb (e0.a - ca).toNat ++ (leb (plc l e0.c) ++ ((if plc l e0.c = 0 then leb e0.c.size ++ txB e0.c else []) ++ (numB e0 ++ []))))))
          ∧ (i = 1 → b.drop a.toNat = leb (e0.s - cs).toNat ++ (leb (e0.a - ca).toNat ++ (leb (plc l e0.c) ++ ((if plc l e0.c = 0 then leb e0.c.size ++ txB e0.c else []) ++ (numB e0 ++ [])))))
          ∧ (i = 2 → b.drop a.toNat = leb (e0.a - ca).toNat ++ (leb (plc l e0.c) ++ ((if plc l e0.c = 0 then leb e0.c.size ++ txB e0.c else []) ++ (numB e0 ++ []))))
          ∧ (i = 3 → b.drop a.toNat = leb (plc l e0.c) ++ ((if plc l e0.c = 0 then leb e0.c.size ++ txB e0.c else []) ++ (numB e0 ++ [])))
          ∧ (i = 4 → b.drop a.toNat = (if plc l e0.c = 0 then leb e0.c.size ++ txB e0.c else []) ++ (numB e0 ++ []))
          ∧ (1 ≤ i → n0 = e0.k) ∧ (2 ≤ i → n1 = e0.s - cs) ∧ (3 ≤ i → n2 = e0.a - ca) ∧ (4 ≤ i → n3 = plc l e0.c)),
      fun i _ _ _ _ _ _ _ => (4 - i).toNat, ⟨by omega, by omega, rfl, by omega, by omega, by omega, by omega, fun hh => ?_⟩, ?_⟩
    · obtain ⟨_, _, _, _, _, hd⟩ := G hh
      exact ⟨rfl, by omega, fun _ => by simpa using hd, fun h => by omega, fun h => by omega, fun h => by omega, fun h => by omega, fun h => by omega, fun h => by omega, fun h => by omega, fun h => by omega⟩
    rintro i rows a er n0 n1 n2 n3 ⟨i0, i4, rfl, r0, r1, r2, r3, hgo⟩
    refine ifB_intro (fun hi => ?_) (fun hi => ?_)
    · simp at hi
      have w : wadd IntKind.i64 i 1 = i + 1 := wadd_i64 (by omega) (by omega)
      refine Cl.ofQ (ruint_fn b a er hl hb) ?_
      rintro r ⟨a2, er2, n, rfl, ho⟩
      have hn0 := ho.n0
      have hn1 := ho.n1
      rw [w]
      refine ⟨_, _, _, _, rfl, ⟨i0, hi⟩, fun hi0 => ?_, fun hi0 => ?_, fun hi0 => ?_, fun hi0 => ?_, trivial⟩
      · refine ⟨rfl, ⟨by omega, by omega, rfl, ⟨hn0, hn1⟩, r1, r2, r3, fun hh => ?_⟩, mlt (by dsimp only; omega)⟩
        obtain ⟨g1, g2, d0, d1, d2, d3, d4, k0, k1, k2, k3⟩ := hgo hh
        obtain ⟨_, _, _, _, _, _⟩ := G hh
        obtain ⟨q1, q2, q3⟩ := ho.good g1 g2 _ _ (d0 hi0) (by omega)
        have hdm := drop_more g2 (d0 hi0)
        rw [← q1] at hdm
        exact ⟨q2, by omega, fun h => by omega, fun _ => hdm, fun h => by omega, fun h => by omega, fun h => by omega, fun _ => by omega, fun h => by omega, fun h => by omega, fun h => by omega⟩
      · refine ⟨rfl, ⟨by omega, by omega, rfl, r0, ⟨hn0, hn1⟩, r2, r3, fun hh => ?_⟩, mlt (by dsimp only; omega)⟩
        obtain ⟨g1, g2, d0, d1, d2, d3, d4, k0, k1, k2, k3⟩ := hgo hh
        obtain ⟨_, _, _, _, _, _⟩ := G hh
        obtain ⟨q1, q2, q3⟩ := ho.good g1 g2 _ _ (d1 hi0) (by omega)
        have hdm := drop_more g2 (d1 hi0)
        rw [← q1] at hdm
        exact ⟨q2, by omega, fun h => by omega, fun h => by omega, fun _ => hdm, fun h => by omega, fun h => by omega, fun _ => k0 (by omega), fun _ => by omega, fun h => by omega, fun h => by omega⟩
      · refine ⟨rfl, ⟨by omega, by omega, rfl, r0, r1, ⟨hn0, hn1⟩, r3, fun hh => ?_⟩, mlt (by dsimp only; omega)⟩
        obtain ⟨g1, g2, d0, d1, d2, d3, d4, k0, k1, k2, k3⟩ := hgo hh
        obtain ⟨_, _, _, _, _, _⟩ := G hh
        obtain ⟨q1, q2, q3⟩ := ho.good g1 g2 _ _ (d2 hi0) (by omega)
        have hdm := drop_more g2 (d2 hi0)
        rw [← q1] at hdm
        exact ⟨q2, by omega, fun h => by omega, fun h => by omega, fun h => by omega, fun _ => hdm, fun h => by omega, fun _ => k0 (by omega), fun _ => k1 (by omega), fun _ => by omega, fun h => by omega⟩
      · refine ⟨rfl, ⟨by omega, by omega, rfl, r0, r1, r2, ⟨hn0, hn1⟩, fun hh => ?_⟩, mlt (by dsimp only; omega)⟩
        obtain ⟨g1, g2, d0, d1, d2, d3, d4, k0, k1, k2, k3⟩ := hgo hh
        obtain ⟨_, _, _, _, _, _⟩ := G hh
        obtain ⟨q1, q2, q3⟩ := ho.good g1 g2 _ _ (d3 hi0) (by omega)
        have hdm := drop_more g2 (d3 hi0)
        rw [← q1] at hdm
        exact ⟨q2, by omega, fun h => by omega, fun h => by omega, fun h => by omega, fun h => by omega, fun _ => hdm, fun _ => k0 (by omega), fun _ => k1 (by omega), fun _ => k2 (by omega), fun _ => by omega⟩
    · simp at hi
      obtain rfl : i = 4 := by omega
      have G4 : g → er = 0 ∧ 0 ≤ a ∧ b.drop a.toNat = (if plc l e0.c = 0 then leb e0.c.size ++ txB e0.c else []) ++ (numB e0 ++ []) ∧ n0 = e0.k ∧ n1 = e0.s - cs ∧ n2 = e0.a - ca ∧ n3 = plc l e0.c := by
        intro hh
        obtain ⟨g1, g2, d0, d1, d2, d3, d4, k0, k1, k2, k3⟩ := hgo hh
        exact ⟨g1, g2, d4 rfl, k0 (by omega), k1 (by omega), k2 (by omega), k3 (by omega)⟩
      refine ifB_intro (fun h1 => ?_) (fun h1 => ?_)
      · simp at h1
        exact Q11 (fun hh => h1 (G4 hh).1)
      refine ifB_intro (fun h2 => ?_) (fun h2 => ?_)
      · simp at h2
        exact Q11 (fun hh => by have := G4 hh; have := G hh; omega)
      refine ifB_intro (fun h3 => ?_) (fun h3 => ?_)
      · simp at h3
        exact Q11 (fun hh => by have := G4 hh; have := G hh; omega)
      refine ifB_intro (fun h4 => ?_) (fun h4 => ?_)
      · simp at h4
        exact Q11 (fun hh => by have := G4 hh; have := G hh; omega)
      rw [rlen_nR, wcvU64 (by omega) (by omega)]
      refine ifB_intro (fun h5 => ?_) (fun h5 => ?_)
      · simp at h5
        exact Q11 (fun hh => by have := G4 hh; have := G hh; omega)
      simp at h1 h2 h3 h4 h5
      refine ifB_intro (fun h6 => ?_) (fun h6 => ?_)
      · simp at h6
        have w : wsub IntKind.u64 n3 1 = n3 - 1 := wrapU64 (by omega) (by omega)
        rw [w]
        refine ⟨⟨by omega, by omega⟩, _, rget_nR (by omega) (by omega), ?_⟩
        refine loop2 _ a er n0 n1 n2 rfl (by omega) (by omega) (by omega) (by omega) (by omega) (by omega) (fun hh => ?_) (fun hh => ?_)
        · obtain ⟨_, _, _, q4, q5, q6, q7⟩ := G4 hh
          refine ⟨?_, q4, q5, q6⟩
          rw [q7]
          exact nmAt_plc (by omega)
        · obtain ⟨q1, q2, q3, _, _, _, q7⟩ := G4 hh
          rw [if_neg (by omega)] at q3
          exact ⟨q1, q2, by simpa using q3⟩
      · simp at h6
        refine Cl.ofQ (rtext_fn b a er hl hb) ?_
        rintro r ⟨a5, er5, s, rfl, o5⟩
        refine ⟨_, _, _, _, rfl, ?_⟩
        have G5 : g → er5 = 0 ∧ s = e0.c ∧ 0 ≤ a5 ∧ b.drop a5.toNat = numB e0 ++ [] := by
          intro hh
          obtain ⟨ok, c, _⟩ := G hh
          obtain ⟨q1, q2, q3, _, _, _, q7⟩ := G4 hh
          have hp : plc l e0.c = 0 := by omega
          rw [if_pos hp, List.append_assoc] at q3
          obtain ⟨z1, z2, z3⟩ := o5.good q1 q2 _ _ q3 c.2.1.2
          have d1 := drop_more q2 q3
          have d2 := drop_more (by omega) d1
          rw [txB_len, ← z1] at d2
          exact ⟨z2, z3, by omega, d2⟩
        refine loop2 s a5 er5 n0 n1 n2 rfl (by omega) (by omega) (by omega) (by omega) (by omega) (by omega) (fun hh => ?_) (fun hh => ?_)
        · obtain ⟨_, _, _, q4, q5, q6, q7⟩ := G4 hh
          exact ⟨(G5 hh).2.1, q4, q5, q6⟩
        · exact ⟨(G5 hh).1, (G5 hh).2.2.1, (G5 hh).2.2.2⟩

end Go.Proofs.YtbocfphenkidnaaGreatDoor.Cod

namespace Go.Proofs.YtbocfphenkidnaaGreatDoor.Cod
open Go Go.Px Go.Proofs
set_option maxRecDepth 100000
set_option linter.unusedVariables false

theorem DOut.shape {cs ca : Int} {l : List ByteArray} {b : List Int} {r : List SV} (h : DOut cs ca l b r) : ∃ (e : EvD) (s a : Int) (m : List ByteArray) (n : Int), r = [e.sv, cx3 s a (nR m), I n] ∧ m.length ≤ l.length + 1 := by
  rcases h with ⟨_, rfl⟩ | ⟨_, ⟨e, _, _, rfl⟩ | ⟨_, rfl⟩⟩
  · exact ⟨⟨0, 0, 0, ByteArray.mk (Array.mk []), 0, 0, 0⟩, _, _, _, _, rfl, by omega⟩
  · refine ⟨e, _, _, _, _, rfl, ?_⟩
    unfold bhdN; split <;> simp
  · exact ⟨⟨0, 0, 0, ByteArray.mk (Array.mk []), 0, 0, 0⟩, _, _, _, _, rfl, by omega⟩

theorem DOut.eq {cs ca : Int} {l : List ByteArray} {b : List Int} {r r' : List SV} (h : DOut cs ca l b r) (h' : DOut cs ca l b r') : r = r' := by
  rcases h with ⟨h1, rfl⟩ | ⟨h1, ⟨e, h2, h3, rfl⟩ | ⟨h2, rfl⟩⟩ <;> rcases h' with ⟨g1, rfl⟩ | ⟨g1, ⟨e', g2, g3, rfl⟩ | ⟨g2, rfl⟩⟩
  · rfl
  · rw [h1] at g1; cases g1
  · rw [h1] at g1; cases g1
  · rw [h1] at g1; cases g1
  · obtain ⟨rfl, _⟩ := enc_inj (r := []) (r' := []) h2 g2 (by rw [h3, g3])
    rfl
  · exact absurd h3 (g2 e h2)
  · rw [h1] at g1; cases g1
  · exact absurd g3 (h2 e' g2)
  · rfl

/-- Bytes of an event that may follow are read as it was. -/
theorem DOut.own {cs ca : Int} {l : List ByteArray} {e : EvD} {r : List SV} (ok : EncOK cs ca l e) (h : DOut cs ca l (encL cs ca l e) r) : r = [e.sv, cx3 e.s e.a (nR (bhdN l e.c)), I 0] :=
  h.eq (.inr ⟨ok.ctx, .inl ⟨e, ok, rfl, rfl⟩⟩)

def eA : EvD := ⟨1, 5, 4, ByteArray.mk (Array.mk [100, 98]), 1, 0, 0⟩

end Go.Proofs.YtbocfphenkidnaaGreatDoor.Cod

namespace Go.Proofs.YtbocfphenkidnaaGreatDoor.Cod
open Go Go.Px Go.Proofs
set_option maxRecDepth 100000
set_option linter.unusedVariables false

def XSnd (l : List Int) (a er a' er' : Int) (s : ByteArray) : Prop := er' = 0 → er = 0 ∧ 0 ≤ a ∧ s.size ≤ 24 ∧ ∃ rest, l.drop a.toNat = leb s.size ++ (txB s ++ rest) ∧ a' = a + (leb s.size).length + s.size

end Go.Proofs.YtbocfphenkidnaaGreatDoor.Cod
