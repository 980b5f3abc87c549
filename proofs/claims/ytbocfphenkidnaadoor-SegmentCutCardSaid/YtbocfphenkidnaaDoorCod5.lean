/- Layer 7: an event as bytes, by what was ahead. -/
import Derived.Test.YtbocfphenkidnaaDoorCodA
namespace Go.Proofs.YtbocfphenkidnaaDoor.Cod
open Go Go.Px Go.Proofs
set_option maxRecDepth 100000
set_option linter.unusedVariables false

structure EvD where
  s : Int
  a : Int
  k : Int
  c : ByteArray
  x : Int
  y : Int
  z : Int

abbrev EvD.sv (e : EvD) : SV := ev7 e.s e.a e.k e.c e.x e.y e.z
def chkE (e : EvD) : Int := chkI e.s e.a e.k e.c e.x e.y e.z

def numI (k x y z : Int) : List Int := [x, y, z].take (manyI k).toNat
theorem numL_numI (k x y z : Int) : numL k x y z = (numI k x y z).map fun n => [I n] := by
  unfold numL numI rsub
  rcases many_cases k with h | h | h | h <;> rw [h] <;> rfl
theorem numI_len (k x y z : Int) : ((numI k x y z).length : Int) = manyI k := by
  unfold numI
  rcases many_cases k with h | h | h | h <;> rw [h] <;> rfl

/-- Why an event may not follow; 0: it may. -/
def encE (cs ca : Int) (l : List ByteArray) (e : EvD) : Int :=
  if ctxB cs ca l = false then 1 else if chkE e ≠ 0 then chkE e else if e.s ≤ cs then 1 else if e.a < ca then 5 else if plc l e.c = 0 ∧ (putN l e.c).2 ≠ 0 then (putN l e.c).2 else 0

def numB (e : EvD) : List Int := (numI e.k e.x e.y e.z).flatMap fun n => leb n.toNat
def encL (cs ca : Int) (l : List ByteArray) (e : EvD) : List Int :=
  leb e.k.toNat ++ leb (e.s - cs).toNat ++ leb (e.a - ca).toNat ++ leb (plc l e.c) ++ (if plc l e.c = 0 then leb e.c.size ++ txB e.c else []) ++ numB e
def bhdN (l : List ByteArray) (c : ByteArray) : List ByteArray := if plc l c = 0 then l ++ [c] else l

/-- An event that may follow. -/
structure EncOK (cs ca : Int) (l : List ByteArray) (e : EvD) : Prop where
  ctx : ctxB cs ca l = true
  chk : chkE e = 0
  seq : cs < e.s
  time : ca ≤ e.a
  put : plc l e.c = 0 → (putN l e.c).2 = 0

theorem encE_zero {cs ca : Int} {l : List ByteArray} {e : EvD} : encE cs ca l e = 0 ↔ EncOK cs ca l e := by
  unfold encE
  constructor
  · intro h
    split at h
    · simp at h
    · rename_i h1
      split at h
      · rename_i h2; exact absurd h h2
      · rename_i h2
        split at h
        · simp at h
        · split at h
          · simp at h
          · split at h
            · rename_i h5; exact absurd h h5.2
            · rename_i h3 h4 h5
              exact ⟨by simpa using h1, by simpa using h2, by omega, by omega, fun hp => Classical.byContradiction fun hn => h5 ⟨hp, hn⟩⟩
  · rintro ⟨h1, h2, h3, h4, h5⟩
    rw [if_neg (by simp [h1]), if_neg (by simp [h2]), if_neg (by omega), if_neg (by omega), if_neg (fun h => h.2 (h5 h.1))]

theorem putN_zero {l : List ByteArray} {t : ByteArray} (h : (putN l t).2 = 0) : (putN l t).1 = l ++ [t] := by
  unfold putN at h ⊢
  split at h
  · simp at h
  · rename_i h1
    rw [if_neg h1]
    split at h
    · simp at h
    · rename_i h2
      rw [if_neg h2]
      split at h
      · simp at h
      · rename_i h3
        rw [if_neg h3]
        split at h
        · simp at h
        · rename_i h4
          rw [if_neg h4]

theorem chkE_zero {e : EvD} (h : chkE e = 0) : (1 ≤ e.k ∧ e.k ≤ 10) ∧ (1 ≤ e.c.size ∧ e.c.size ≤ 24) ∧ (lo1 e.k ≤ e.x ∧ e.x ≤ hi1 e.k ∧ 0 ≤ e.y ∧ e.y ≤ hi2 e.k ∧ 0 ≤ e.z ∧ e.z ≤ hi3 e.k) ∧ (0 ≤ e.a ∧ e.a ≤ 1099511627776) ∧ (0 ≤ e.s ∧ e.s ≤ 4294967296) := by
  obtain ⟨h1, h2, h3, h4, h5⟩ := chk0 h
  have h1 : ¬ (e.k < 1 ∨ 10 < e.k) := fun hh => h1 ((many0 _).2 hh)
  have h2 : 1 ≤ e.c.size ∧ e.c.size ≤ 24 := by simpa [namB] using h2
  have h3 : lo1 e.k ≤ e.x ∧ e.x ≤ hi1 e.k ∧ 0 ≤ e.y ∧ e.y ≤ hi2 e.k ∧ 0 ≤ e.z ∧ e.z ≤ hi3 e.k := by simpa [valB] using h3
  exact ⟨by omega, h2, h3, by omega, by omega⟩

theorem hi_le (k : Int) : 0 ≤ lo1 k ∧ hi1 k ≤ 2147483647 ∧ hi2 k ≤ 2147483647 ∧ hi3 k ≤ 2147483647 := by
  unfold lo1 hi1 hi2 hi3
  refine ⟨?_, ?_, ?_, ?_⟩ <;> repeat' split
  all_goals omega

theorem numI_range {e : EvD} (h : chkE e = 0) : ∀ n ∈ numI e.k e.x e.y e.z, 0 ≤ n ∧ n ≤ 2147483647 := by
  obtain ⟨_, _, h3, _, _⟩ := chkE_zero h
  have := hi_le e.k
  intro n hn
  have := List.mem_of_mem_take hn
  simp at this
  rcases this with rfl | rfl | rfl <;> omega

theorem nums_loop {f : FuncId} (hput : ∀ (l : List Int) (n : Int), 0 ≤ n → n ≤ 18446744073709551615 → l.length ≤ 100000 → Ct Tryd.prog f sO [SL 1 (bR l), U64 n] (fun r => r = [SL 1 (bR (l ++ leb n.toNat))]))
    {e : EvD} (he : chkE e = 0) (l0 : List Int) (hl0 : l0.length ≤ 1000) {FX : Prop} (hFX : FX) {K : List (List SV) → Prop} (hK : K (bR (l0 ++ numB e))) :
    ∃ Inv : (List (List SV)) → Int → Prop, ∃ m : (List (List SV)) → Int → Nat, (Inv (bR l0) 0) ∧ (∀ l8 : List (List SV), ∀ x4 : Int, (Inv l8 x4) → ifB (ilt x4 (rlen (numL e.k e.x e.y e.z))) ((((0 : Int) ≤ x4) ∧ (x4 < (rlen (numL e.k e.x e.y e.z)))) ∧ (∃ x5 : Int, (rget (numL e.k e.x e.y e.z) x4 = [I x5]) ∧ (Cl Tryd.prog f sO [SL 1 l8, U64 (wcv IntKind.u64 x5)] (fun (rs11 : List SV) => ∃ l9 : List (List SV), (rs11 = [SL 1 l9]) ∧ (FX ∧ ((Inv l9 (wadd IntKind.i64 x4 1)) ∧ (Nat.le (Nat.succ (m l9 (wadd IntKind.i64 x4 1))) (m l8 x4)))))))) (K l8)) := by
  have hN := numI_range he
  have hlen3 : (numI e.k e.x e.y e.z).length ≤ 3 := by
    have := numI_len e.k e.x e.y e.z
    rcases many_cases e.k with h | h | h | h <;> omega
  rw [numL_numI]
  generalize hns : numI e.k e.x e.y e.z = ns at hN hlen3
  have hB : numB e = ns.flatMap fun n => leb n.toNat := by unfold numB; rw [hns]
  rw [hB] at hK
  refine ⟨fun rows x => 0 ≤ x ∧ x ≤ ns.length ∧ ∃ l1 : List Int, rows = bR l1 ∧ l1 = l0 ++ (ns.take x.toNat).flatMap (fun n => leb n.toNat) ∧ l1.length ≤ 1000 + 10 * x, fun _ x => (ns.length - x).toNat, ⟨by omega, by omega, l0, rfl, by simp, by omega⟩, ?_⟩
  rintro rows x ⟨h0, h1, l1, rfl, hl1, hll⟩
  refine ifB_intro (fun h => ?_) (fun h => ?_)
  · simp at h
    have w : wadd IntKind.i64 x 1 = x + 1 := wadd_i64 (by omega) (by omega)
    have hx : x.toNat < ns.length := by omega
    have hr := hN ns[x.toNat] (List.getElem_mem hx)
    have hb : (leb ns[x.toNat].toNat).length ≤ 10 := leb_len 9 _ (Nat.lt_of_lt_of_le (show ns[x.toNat].toNat < 2147483648 by omega) (by decide))
    refine ⟨⟨h0, by simpa using h⟩, ns[x.toNat], by simp [rget, hx], ?_⟩
    rw [wcvU64 (by omega) (by omega), w]
    refine Cl.of (hput l1 _ (by omega) (by omega) (by omega)) ⟨_, rfl, hFX, ⟨by omega, by omega, _, rfl, ?_, ?_⟩, mlt (by dsimp only; omega)⟩
    · rw [show (x + 1).toNat = x.toNat + 1 by omega, List.take_add_one, List.getElem?_eq_getElem hx, List.flatMap_append, hl1]
      simp
    · simp; omega
  · simp at h
    rw [List.take_of_length_le (by omega)] at hl1
    rw [hl1]
    exact hK

theorem dup {p : Prop} (h : p) : p ∧ p := ⟨h, h⟩

/-- What encoding comes to. -/
def encR (cs ca : Int) (l : List ByteArray) (e : EvD) : List SV :=
  if encE cs ca l e = 0 then [SL 1 (bR (encL cs ca l e)), cx3 e.s e.a (nR (bhdN l e.c)), I 0] else [SL 1 [], cx3 cs ca (nR l), I (encE cs ca l e)]

theorem encR_bad {cs ca : Int} {l : List ByteArray} {e : EvD} {n : Int} (h : encE cs ca l e = n) (hn : n ≠ 0) : [SL 1 [], cx3 cs ca (nR l), I n] = encR cs ca l e := by
  unfold encR; rw [h, if_neg hn]

theorem leb_small {n : Nat} (h : n < 18446744073709551616) : (leb n).length ≤ 10 := leb_len 9 _ (Nat.lt_of_lt_of_le h (by decide))

theorem ctxB_iff {cs ca : Int} {l : List ByteArray} : ctxB cs ca l = true ↔ (0 ≤ cs ∧ cs ≤ 4294967296 ∧ 0 ≤ ca ∧ ca ≤ 1099511627776) ∧ rgtB l = true := by simp [ctxB]

/-- The four numbers, and the name, are put. -/
theorem put4 {f g : FuncId} (hput : ∀ (l : List Int) (n : Int), 0 ≤ n → n ≤ 18446744073709551615 → l.length ≤ 100000 → Ct Tryd.prog f sO [SL 1 (bR l), U64 n] (fun r => r = [SL 1 (bR (l ++ leb n.toNat))]))
    {cs ca : Int} {l : List ByteArray} {e : EvD} (ok : EncOK cs ca l e) :
    wcv IntKind.u64 e.k = e.k ∧ wcv IntKind.u64 (wsub IntKind.i64 e.s cs) = e.s - cs ∧ wcv IntKind.u64 (wsub IntKind.i64 e.a ca) = e.a - ca ∧ wcv IntKind.u64 (plc l e.c : Int) = plc l e.c ∧ plc l e.c ≤ 32 ∧
    (leb e.k.toNat).length ≤ 10 ∧ (leb (e.s - cs).toNat).length ≤ 10 ∧ (leb (e.a - ca).toNat).length ≤ 10 ∧ (leb (plc l e.c)).length ≤ 10 := by
  obtain ⟨h1, h2, h3, h4, h5⟩ := chkE_zero ok.chk
  have hc := ctxB_iff.1 ok.ctx
  have hl := (rgtB_iff.1 hc.2).1
  have hp := plc_le (l := l) (s := e.c)
  have := ok.seq
  have := ok.time
  refine ⟨wcvU64 (by omega) (by omega), ?_, ?_, wcvU64 (by omega) (by omega), by omega, leb_small (by omega), leb_small (by omega), leb_small (by omega), leb_small (by omega)⟩
  · rw [wsub_i64 (by omega) (by omega)]; exact wcvU64 (by omega) (by omega)
  · rw [wsub_i64 (by omega) (by omega)]; exact wcvU64 (by omega) (by omega)

theorem encode_fn (cs ca : Int) (l : List ByteArray) (e : EvD) : Ct Tryd.prog 30 {} [cx3 cs ca (nR l), e.sv] (fun r => r = encR cs ca l e) := by
  refine encode_nf _ _ _ _ _ _ _ _ _ _ _ (Cl.of (cright_fn cs ca l) ⟨_, rfl, ifB_intro (fun h => ?_) (fun h => ?_)⟩)
  · simp at h
    exact encR_bad (by simp [encE, h]) (by omega)
  · simp at h
    have hl : l.length ≤ 32 := (rgtB_iff.1 (ctxB_iff.1 h).2).1
    refine Cl.of (check_fn e.s e.a e.k e.c e.x e.y e.z) ⟨_, rfl, ifB_intro (fun h1 => ?_) (fun h1 => ?_)⟩
    · simp at h1
      exact encR_bad (by simp [encE, h, chkE, h1]) h1
    · simp at h1
      have hchk : chkE e = 0 := h1
      refine ifB_intro (fun h2 => ?_) (fun h2 => ?_)
      · simp at h2
        exact encR_bad (by simp [encE, h, hchk, h2]) (by omega)
      · simp at h2
        refine ifB_intro (fun h3 => ?_) (fun h3 => ?_)
        · simp at h3
          have h2' : ¬ e.s ≤ cs := by omega
          exact encR_bad (by simp [encE, h, hchk, h2', h3]) (by omega)
        · simp at h3
          refine dup (Cl.of (clip_fn _) ⟨_, rfl, Cl.of (place_fn l e.c (by omega)) ⟨_, rfl, ?_⟩⟩)
          refine ifB_intro (fun h4 => ?_) (fun h4 => ?_)
          · simp at h4
            have h4 : plc l e.c = 0 := by omega
            refine Cl.of (nput_fn l e.c) ⟨_, _, rfl, ifB_intro (fun h5 => ?_) (fun h5 => ?_)⟩
            · simp at h5
              have h2' : ¬ e.s ≤ cs := by omega
              have h3' : ¬ e.a < ca := by omega
              exact encR_bad (by simp [encE, h, hchk, h2', h3', h4, h5]) h5
            · simp at h5
              have ok : EncOK cs ca l e := ⟨h, hchk, h2, h3, fun _ => h5⟩
              obtain ⟨w1, w2, w3, w4, w5, b1, b2, b3, b4⟩ := put4 (g := 0) putUint_fn ok
              obtain ⟨c1, c2, c3, c4, c5⟩ := chkE_zero hchk
              have hs := ok.seq
              have ht := ok.time
              have hcx := (ctxB_iff.1 h).1
              rw [w1, w2, w3, w4]
              refine Cl.of (putUint_fn [] _ (by omega) (by omega) (by simp)) ⟨_, rfl, ?_⟩
              refine Cl.of (putUint_fn _ _ (by omega) (by omega) (by simp; omega)) ⟨_, rfl, ?_⟩
              refine Cl.of (putUint_fn _ _ (by omega) (by omega) (by simp; omega)) ⟨_, rfl, ?_⟩
              refine Cl.of (putUint_fn _ _ (by omega) (by omega) (by simp; omega)) ⟨_, rfl, ?_⟩
              refine ifB_intro (fun _ => ?_) (fun h6 => by simp [h4] at h6)
              refine Cl.of (putText_fn _ _ (by simp; omega) (by omega)) ⟨_, rfl, ?_⟩
              refine Cl.of (numbers_fn _ _ _ _ _ _ _) ⟨_, rfl, ?_⟩
              have hbs : (leb e.c.size).length ≤ 10 := leb_small (by omega)
              refine nums_loop putUint_fn hchk _ (by simp [txB_len]; omega) rfl ?_
              unfold encR
              rw [if_pos (encE_zero.2 ok), putN_zero h5]
              simp [encL, bhdN, h4]
          · simp at h4
            have h4 : ¬ plc l e.c = 0 := by omega
            have ok : EncOK cs ca l e := ⟨h, hchk, h2, h3, fun h5 => absurd h5 h4⟩
            obtain ⟨w1, w2, w3, w4, w5, b1, b2, b3, b4⟩ := put4 (g := 0) putUint_fn ok
            obtain ⟨c1, c2, c3, c4, c5⟩ := chkE_zero hchk
            have hs := ok.seq
            have ht := ok.time
            have hcx := (ctxB_iff.1 h).1
            rw [w1, w2, w3, w4]
            refine Cl.of (putUint_fn [] _ (by omega) (by omega) (by simp)) ⟨_, rfl, ?_⟩
            refine Cl.of (putUint_fn _ _ (by omega) (by omega) (by simp; omega)) ⟨_, rfl, ?_⟩
            refine Cl.of (putUint_fn _ _ (by omega) (by omega) (by simp; omega)) ⟨_, rfl, ?_⟩
            refine Cl.of (putUint_fn _ _ (by omega) (by omega) (by simp; omega)) ⟨_, rfl, ?_⟩
            refine ifB_intro (fun h6 => by simp at h6; omega) (fun h6 => ?_)
            refine Cl.of (numbers_fn _ _ _ _ _ _ _) ⟨_, rfl, ?_⟩
            refine nums_loop putUint_fn hchk _ (by simp; omega) rfl ?_
            unfold encR
            rw [if_pos (encE_zero.2 ok)]
            simp [encL, bhdN, h4]

end Go.Proofs.YtbocfphenkidnaaDoor.Cod
