/- Layer 7: an event as bytes, by what was ahead. -/
import Derived.Test.YtbocfphenkidnaaGreatDoorCodA
namespace Go.Proofs.YtbocfphenkidnaaGreatDoor.Cod
open Go Go.Px Go.Proofs
set_option maxRecDepth 100000
set_option linter.unusedVariables false

structure EvD where
 s : Int
 a : Int
 k : Int
 c : ByteArray
 x : Int
 y : Int
 z : Int

abbrev EvD.sv (e : EvD) : SV := ev7 e.s e.a e.k e.c e.x e.y e.z
def chkE (e : EvD) : Int := chkI e.s e.a e.k e.c e.x e.y e.z

def numI (k x y z : Int) : List Int := [x, y, z].take (manyI k).toNat
theorem numL_numI (k x y z : Int) : numL k x y z = (numI k x y z).map fun n => [I n] := by
 unfold numL numI rsub
 rcases many_cases k with h | h | h | h <;> rw [h] <;> rfl
theorem numI_len (k x y z : Int) : ((numI k x y z).length : Int) = manyI k := by
 unfold numI
 rcases many_cases k with h | h | h | h <;> rw [h] <;> rfl

def encE (cs ca : Int) (l : List ByteArray) (e : EvD) : Int :=
 if ctxB cs ca l = false then 1 else if chkE e ≠ 0 then chkE e else if e.s ≤ cs then 1 else if e.a < ca then 5 else if plc l e.c = 0 ∧ (putN l e.c).2 ≠ 0 then (putN l e.c).2 else 0

def numB (e : EvD) : List Int := (numI e.k e.x e.y e.z).flatMap fun n => leb n.toNat
def encL (cs ca : Int) (l : List ByteArray) (e : EvD) : List Int :=
 leb e.k.toNat ++ leb (e.s - cs).toNat ++ leb (e.a - ca).toNat ++ leb (plc l e.c) ++ (if plc l e.c = 0 then leb e.c.size ++ txB e.c else []) ++ numB e
def bhdN (l : List ByteArray) (c : ByteArray) : List ByteArray := if plc l c = 0 then l ++ [c] else l

structure EncOK (cs ca : Int) (l : List ByteArray) (e : EvD) : Prop where
 ctx : ctxB cs ca l = true
 chk : chkE e = 0
 seq : cs < e.s
 time : ca ≤ e.a
 put : plc l e.c = 0 → (putN l e.c).2 = 0

theorem chkE_zero {e : EvD} (h : chkE e = 0) : (1 ≤ e.k ∧ e.k ≤ 10) ∧ (1 ≤ e.c.size ∧ e.c.size ≤ 24) ∧ (lo1 e.k ≤ e.x ∧ e.x ≤ hi1 e.k ∧ 0 ≤ e.y ∧ e.y ≤ hi2 e.k ∧ 0 ≤ e.z ∧ e.z ≤ hi3 e.k) ∧ (0 ≤ e.a ∧ e.a ≤ 1099511627776) ∧ (0 ≤ e.s ∧ e.s ≤ 4294967296) := by
 obtain ⟨h1, h2, h3, h4, h5⟩ := chk0 h
 have h1 : ¬ (e.k < 1 ∨ 10 < e.k) := fun hh => h1 ((many0 _).2 hh)
 have h2 : 1 ≤ e.c.size ∧ e.c.size ≤ 24 := by simpa [namB] using h2
 have h3 : lo1 e.k ≤ e.x ∧ e.x ≤ hi1 e.k ∧ 0 ≤ e.y ∧ e.y ≤ hi2 e.k ∧ 0 ≤ e.z ∧ e.z ≤ hi3 e.k := by simpa [valB] using h3
 exact ⟨by omega, h2, h3, by omega, by omega⟩

theorem hi_le (k : Int) : 0 ≤ lo1 k ∧ hi1 k ≤ 2147483647 ∧ hi2 k ≤ 2147483647 ∧ hi3 k ≤ 2147483647 := by
 unfold lo1 hi1 hi2 hi3
 refine ⟨?_, ?_, ?_, ?_⟩ <;> repeat' split
 all_goals omega

theorem numI_range {e : EvD} (h : chkE e = 0) : ∀ n ∈ numI e.k e.x e.y e.z, 0 ≤ n ∧ n ≤ 2147483647 := by
 obtain ⟨_, _, h3, _, _⟩ := chkE_zero h
 have := hi_le e.k
 intro n hn
 have := List.mem_of_mem_take hn
 simp at this
 rcases this with rfl | rfl | rfl <;> omega

def encR (cs ca : Int) (l : List ByteArray) (e : EvD) : List SV :=
 if encE cs ca l e = 0 then [SL 1 (bR (encL cs ca l e)), cx3 e.s e.a (nR (bhdN l e.c)), I 0] else [SL 1 [], cx3 cs ca (nR l), I (encE cs ca l e)]

theorem leb_small {n : Nat} (h : n < 18446744073709551616) : (leb n).length ≤ 10 := leb_len 9 _ (Nat.lt_of_lt_of_le h (by decide))

theorem ctxB_iff {cs ca : Int} {l : List ByteArray} : ctxB cs ca l = true ↔ (0 ≤ cs ∧ cs ≤ 4294967296 ∧ 0 ≤ ca ∧ ca ≤ 1099511627776) ∧ rgtB l = true := by simp [ctxB]


def bhdR (cs ca : Int) (l : List ByteArray) (e : EvD) : List SV :=
 if encE cs ca l e = 0 then [cx3 e.s e.a (nR (bhdN l e.c)), I 0] else [cx3 cs ca (nR l), I (encE cs ca l e)]

theorem flat_inj : ∀ (ns ms : List Int) (r r' : List Int), ns.length = ms.length → (∀ n ∈ ns, 0 ≤ n) → (∀ n ∈ ms, 0 ≤ n) → ns.flatMap (fun n => leb n.toNat) ++ r = ms.flatMap (fun n => leb n.toNat) ++ r' → ns = ms ∧ r = r'
 | [], [], r, r', _, _, _, h => ⟨rfl, by simpa using h⟩
 | n :: ns, m :: ms, r, r', hl, hn, hm, h => by
  simp only [List.flatMap_cons, List.append_assoc] at h
  obtain ⟨h1, h2⟩ := leb_inj _ _ _ _ h
  obtain ⟨h3, h4⟩ := flat_inj ns ms r r' (by simpa using hl) (fun x hx => hn x (by simp [hx])) (fun x hx => hm x (by simp [hx])) h2
  have a1 := hn n (by simp)
  have a2 := hm m (by simp)
  exact ⟨by rw [h3, show n = m by omega], h4⟩
 | [], _ :: _, _, _, hl, _, _, _ => by simp at hl
 | _ :: _, [], _, _, hl, _, _, _ => by simp at hl

theorem tx_inj {s t : ByteArray} (h : txB s = txB t) : s = t := by
 have := congrArg (fun l => bstr (bR l)) h
 simpa [bstr_tx] using this

theorem fill_nums {e : EvD} (h : chkE e = 0) : nAt (numL e.k e.x e.y e.z) 0 = e.x ∧ nAt (numL e.k e.x e.y e.z) 1 = e.y ∧ nAt (numL e.k e.x e.y e.z) 2 = e.z := by
 obtain ⟨c1, _, hv, _, _⟩ := chkE_zero h
 have c1 : manyI e.k ≠ 0 := fun hh => by have := (many0 _).1 hh; omega
 rcases many_cases e.k with h | h | h | h
 ·exact absurd h c1
 ·have e' : numL e.k e.x e.y e.z = [[I e.x]] := by unfold numL; rw [h]; rfl
  have := many1 h
  rw [e']
  exact ⟨rfl, by simp [nAt]; omega, by simp [nAt]; omega⟩
 ·have e' : numL e.k e.x e.y e.z = [[I e.x], [I e.y]] := by unfold numL; rw [h]; rfl
  have := many2 h
  rw [e']
  exact ⟨rfl, rfl, by simp [nAt]; omega⟩
 ·have e' : numL e.k e.x e.y e.z = [[I e.x], [I e.y], [I e.z]] := by unfold numL; rw [h]; rfl
  rw [e']
  exact ⟨rfl, rfl, rfl⟩

theorem enc_inj {cs ca : Int} {l : List ByteArray} {e e' : EvD} {r r' : List Int} (h : EncOK cs ca l e) (h' : EncOK cs ca l e') (he : encL cs ca l e ++ r = encL cs ca l e' ++ r') : e = e' ∧ r = r' := by
 obtain ⟨c1, c2, c3, c4, c5⟩ := chkE_zero h.chk
 obtain ⟨d1, d2, d3, d4, d5⟩ := chkE_zero h'.chk
 have := h.seq; have := h.time; have := h'.seq; have := h'.time
 unfold encL at he
 simp only [List.append_assoc] at he
 obtain ⟨g1, he⟩ := leb_inj _ _ _ _ he
 obtain ⟨g2, he⟩ := leb_inj _ _ _ _ he
 obtain ⟨g3, he⟩ := leb_inj _ _ _ _ he
 obtain ⟨g4, he⟩ := leb_inj _ _ _ _ he
 have hk : e.k = e'.k := by omega
 have key : e.c = e'.c ∧ numB e ++ r = numB e' ++ r' := by
  by_cases hp : plc l e.c = 0
  ·have hp' : plc l e'.c = 0 := by omega
   rw [if_pos hp, if_pos hp'] at he
   simp only [List.append_assoc] at he
   obtain ⟨g5, he⟩ := leb_inj _ _ _ _ he
   have hlen : (txB e.c).length = (txB e'.c).length := by rw [txB_len, txB_len, g5]
   obtain ⟨g6, g7⟩ := List.append_inj he hlen
   exact ⟨tx_inj g6, g7⟩
  ·have hp' : ¬ plc l e'.c = 0 := by omega
   rw [if_neg hp, if_neg hp'] at he
   obtain ⟨i, hi⟩ : ∃ i, plc l e.c = i + 1 := ⟨plc l e.c - 1, by omega⟩
   have a1 := plc_at hi
   have a2 := plc_at (g4 ▸ hi)
   rw [a1] at a2
   exact ⟨by injection a2, by simpa using he⟩
 obtain ⟨kc, kn⟩ := key
 have hl : (numI e.k e.x e.y e.z).length = (numI e'.k e'.x e'.y e'.z).length := by
  have a1 := numI_len e.k e.x e.y e.z
  have a2 := numI_len e'.k e'.x e'.y e'.z
  rw [hk] at a1
  rw [hk]; omega
 obtain ⟨kn, kr⟩ := flat_inj _ _ _ _ hl (fun n hn => (numI_range h.chk n hn).1) (fun n hn => (numI_range h'.chk n hn).1) kn
 have f1 := fill_nums h.chk
 have f2 := fill_nums h'.chk
 rw [numL_numI] at f1 f2
 rw [kn] at f1
 have ex : e.x = e'.x := f1.1.symm.trans f2.1
 have ey : e.y = e'.y := f1.2.1.symm.trans f2.2.1
 have ez : e.z = e'.z := f1.2.2.symm.trans f2.2.2
 refine ⟨?_, kr⟩
 cases e; cases e'
 simp only at *
 simp only [EvD.mk.injEq]
 exact ⟨by omega, by omega, hk, kc, ex, ey, ez⟩

abbrev ev0 : SV := ev7 0 0 0 (ByteArray.mk (Array.mk [])) 0 0 0

def DOut (cs ca : Int) (l : List ByteArray) (b : List Int) (r : List SV) : Prop :=
 (ctxB cs ca l = false ∧ r = [ev0, cx3 cs ca (nR l), I 1]) ∨ (ctxB cs ca l = true ∧ ((∃ e, EncOK cs ca l e ∧ encL cs ca l e = b ∧ r = [e.sv, cx3 e.s e.a (nR (bhdN l e.c)), I 0]) ∨ ((∀ e, EncOK cs ca l e → encL cs ca l e ≠ b) ∧ r = [ev0, cx3 cs ca (nR l), I 11])))

theorem DOut.none {cs ca : Int} {l : List ByteArray} {b : List Int} (hc : ctxB cs ca l = true) (h : ∀ e, EncOK cs ca l e → encL cs ca l e ≠ b) : DOut cs ca l b [ev0, cx3 cs ca (nR l), I 11] := .inr ⟨hc, .inr ⟨h, rfl⟩⟩

abbrev iR (l : List Int) : List (List SV) := l.map fun n => [I n]

theorem parts {cs ca : Int} {l : List ByteArray} {e : EvD} {b rest : List Int} (h : b = encL cs ca l e ++ rest) :
  b = leb e.k.toNat ++ (leb (e.s - cs).toNat ++ (leb (e.a - ca).toNat ++ (leb (plc l e.c) ++ ((if plc l e.c = 0 then leb e.c.size ++ txB e.c else []) ++ (numB e ++ rest))))) := by
 rw [h]; unfold encL; simp only [List.append_assoc]



theorem DOut.shape {cs ca : Int} {l : List ByteArray} {b : List Int} {r : List SV} (h : DOut cs ca l b r) : ∃ (e : EvD) (s a : Int) (m : List ByteArray) (n : Int), r = [e.sv, cx3 s a (nR m), I n] ∧ m.length ≤ l.length + 1 := by
 rcases h with ⟨_, rfl⟩ | ⟨_, ⟨e, _, _, rfl⟩ | ⟨_, rfl⟩⟩
 ·exact ⟨⟨0, 0, 0, ByteArray.mk (Array.mk []), 0, 0, 0⟩, _, _, _, _, rfl, by omega⟩
 ·refine ⟨e, _, _, _, _, rfl, ?_⟩
  unfold bhdN; split <;> simp
 ·exact ⟨⟨0, 0, 0, ByteArray.mk (Array.mk []), 0, 0, 0⟩, _, _, _, _, rfl, by omega⟩

theorem DOut.eq {cs ca : Int} {l : List ByteArray} {b : List Int} {r r' : List SV} (h : DOut cs ca l b r) (h' : DOut cs ca l b r') : r = r' := by
 rcases h with ⟨h1, rfl⟩ | ⟨h1, ⟨e, h2, h3, rfl⟩ | ⟨h2, rfl⟩⟩ <;> rcases h' with ⟨g1, rfl⟩ | ⟨g1, ⟨e', g2, g3, rfl⟩ | ⟨g2, rfl⟩⟩
 ·rfl
 ·rw [h1] at g1; cases g1
 ·rw [h1] at g1; cases g1
 ·rw [h1] at g1; cases g1
 ·obtain ⟨rfl, _⟩ := enc_inj (r := []) (r' := []) h2 g2 (by rw [h3, g3])
  rfl
 ·exact absurd h3 (g2 e h2)
 ·rw [h1] at g1; cases g1
 ·exact absurd g3 (h2 e' g2)
 ·rfl

theorem DOut.own {cs ca : Int} {l : List ByteArray} {e : EvD} {r : List SV} (ok : EncOK cs ca l e) (h : DOut cs ca l (encL cs ca l e) r) : r = [e.sv, cx3 e.s e.a (nR (bhdN l e.c)), I 0] :=
 h.eq (.inr ⟨ok.ctx, .inl ⟨e, ok, rfl, rfl⟩⟩)

def eA : EvD := ⟨1, 5, 4, ByteArray.mk (Array.mk [100, 98]), 1, 0, 0⟩


theorem tx_bstr {l : List Int} (h : Byts l) : txB (bstr (bR l)) = l := by
 simp only [txB, bstr, bR, List.map_map]
 conv => rhs; rw [← List.map_id l]
 apply List.map_congr_left
 intro x hx
 have := h x hx
 simp [byteOfRow]
 omega

def XSnd (l : List Int) (a er a' er' : Int) (s : ByteArray) : Prop := er' = 0 → er = 0 ∧ 0 ≤ a ∧ s.size ≤ 24 ∧ ∃ rest, l.drop a.toNat = leb s.size ++ (txB s ++ rest) ∧ a' = a + (leb s.size).length + s.size

theorem textS_fn (l : List Int) (a er : Int) (hl : l.length ≤ 100000) (hb : Byts l) : Ct Tryz.prog 231 {} [cu3 (bR l) a er, I 24] (fun r => ∃ a' er' s, r = [cu3 (bR l) a' er', S s] ∧ XOut l a er a' er' s ∧ XSnd l a er a' er' s) := by
 refine text_nf _ _ _ _ _ (Cl.ofQ (uintS_fn l a er hl hb) ?_)
 rintro r ⟨a1, er1, n, rfl, ho, hsn⟩
 have w24 : wcv IntKind.u64 24 = 24 := rfl
 have n0 := ho.n0
 have n1 := ho.n1
 have hgood : er = 0 → 0 ≤ a → ∀ (t : ByteArray) rest, l.drop a.toNat = leb t.size ++ (txB t ++ rest) → t.size ≤ 24 → a1 = a + (leb t.size).length ∧ er1 = 0 ∧ n = t.size ∧ l.drop a1.toNat = txB t ++ rest ∧ a1 + t.size ≤ l.length ∧ 0 ≤ a1 := by
  intro e1 e2 t rest e3 e4
  obtain ⟨g1, g2, g3⟩ := ho.good e1 e2 t.size _ e3 (by omega)
  have hd := drop_more e2 e3
  rw [← g1] at hd
  have hlen := congrArg List.length hd
  simp [txB_len] at hlen
  have := drop_lt e3
  exact ⟨g1, g2, g3, hd, by omega, by omega⟩
 refine ⟨_, _, _, _, rfl, ifB_intro (fun h => ?_) (fun h => ?_)⟩
 ·simp at h
  exact ⟨_, _, _, rfl, ⟨fun e1 e2 t rest e3 e4 => absurd (hgood e1 e2 t rest e3 e4).2.1 h⟩, fun he => absurd he h⟩
 ·simp at h
  refine ifB_intro (fun h2 => by simp at h2) (fun h2 => ?_)
  rw [w24]
  refine ifB_intro (fun h3 => ?_) (fun h3 => ?_)
  ·simp at h3
   refine Cl.of (stay_fn l a er 9) ⟨_, _, _, rfl, _, _, _, rfl, ⟨fun e1 e2 t rest e3 e4 => ?_⟩, fun he => absurd he (styE_ne (by decide))⟩
   have := hgood e1 e2 t rest e3 e4
   omega
  ·simp at h3
   refine Cl.of (left_fn l a1 er1 hl) ⟨_, rfl, ?_⟩
   have hr : rgtC l a1 er1 = true ↔ 0 ≤ a1 ∧ a1 ≤ l.length ∧ er1 = 0 := by simp [rgtC]
   have hw : wcv IntKind.u64 (if rgtC l a1 er1 = true then (l.length : Int) - a1 else 0) = (if rgtC l a1 er1 = true then (l.length : Int) - a1 else 0) := by
    split
    ·rename_i hh; have := hr.1 hh; exact wcvU64 (by omega) (by omega)
    ·rfl
   rw [hw]
   refine ifB_intro (fun h4 => ?_) (fun h4 => ?_)
   ·refine Cl.of (stay_fn l a er 10) ⟨_, _, _, rfl, _, _, _, rfl, ⟨fun e1 e2 t rest e3 e4 => ?_⟩, fun he => absurd he (styE_ne (by decide))⟩
    have := hgood e1 e2 t rest e3 e4
    rw [if_pos (hr.2 (by omega))] at h4
    simp at h4
    omega
   ·rw [wcvI64 (by omega) (by omega)]
    refine Cl.ofQ (take_fn l a1 er1 n hl (by omega) (by omega)) ?_
    rintro r ⟨a2, er2, bs, rfl, ht⟩
    refine ⟨_, _, _, _, rfl, isBytes_bR (hb.sub ht.mem), _, _, _, rfl, ⟨fun e1 e2 t rest e3 e4 => ?_⟩, fun _ => ?_⟩
    ·obtain ⟨g1, g2, g3, g4, g5, g6⟩ := hgood e1 e2 t rest e3 e4
     obtain ⟨q1, q2, q3⟩ := ht.good g2 g6 n0 (by omega)
     refine ⟨by omega, q2, ?_⟩
     rw [q3, g4, g3]
     have : (txB t ++ rest).take ((t.size : Nat) : Int).toNat = txB t := by
      rw [Int.toNat_natCast, ← txB_len, List.take_left]
     rw [this, bstr_tx]
    ·obtain ⟨s1, s2, rest, s3, s4⟩ := hsn h
     have hlen := congrArg List.length s3
     simp at hlen
     have hp := leb_pos n.toNat
     have ha1 : 0 ≤ a1 ∧ a1 ≤ l.length := by omega
     rw [if_pos (hr.2 ⟨ha1.1, ha1.2, h⟩)] at h4
     simp at h4 h3
     obtain ⟨q1, q2, q3⟩ := ht.good h ha1.1 n0 (by omega)
     have hd := drop_more s2 s3
     rw [← s4] at hd
     have hbs : bs.length = n.toNat := by rw [q3]; simp; omega
     have hby : Byts bs := hb.sub ht.mem
     have hsz : (bstr (bR bs)).size = n.toNat := by rw [← txB_len, tx_bstr hby, hbs]
     refine ⟨s1, s2, by omega, (l.drop a1.toNat).drop n.toNat, ?_, ?_⟩
     ·rw [hsz, tx_bstr hby, q3, List.take_append_drop, hd]; exact s3
     ·rw [hsz]; omega

end Go.Proofs.YtbocfphenkidnaaGreatDoor.Cod
