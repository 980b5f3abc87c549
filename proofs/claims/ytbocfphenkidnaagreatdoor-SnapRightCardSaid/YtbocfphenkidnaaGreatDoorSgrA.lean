/- The sum of bytes as a register that is linear over xor: bit by bit, and what four bytes in a row do to it. -/
import Derived.Test.YtbocfphenkidnaaGreatDoorSegA
import Derived.Test.YtbocfphenkidnaaGreatDoorShf
namespace Go.Proofs.YtbocfphenkidnaaGreatDoor.Seg
open Go Go.Px Go.Proofs Cod
set_option maxRecDepth 100000
set_option linter.unusedVariables false

def stN (n : Nat) : Nat := if n % 2 = 1 then n / 2 ^^^ 3988292384 else n / 2
def itN : Nat → Nat → Nat
 | 0, n => n
 | k + 1, n => stN (itN k n)
abbrev M32 : Nat := 4294967295
def rgN (l : List Nat) (r : Nat) : Nat := l.foldl (fun r b => itN 8 (r ^^^ b)) r

theorem stN_lt {n : Nat} (h : n < 4294967296) : stN n < 4294967296 := by
 unfold stN
 split
 ·exact Nat.xor_lt_two_pow (n := 32) (by omega) (by decide)
 ·omega
theorem itN_lt {n : Nat} (h : n < 4294967296) : ∀ k, itN k n < 4294967296
 | 0 => h
 | k + 1 => stN_lt (itN_lt h k)
theorem xor_lt32 {a b : Nat} (h : a < 4294967296) (k : b < 4294967296) : a ^^^ b < 4294967296 := Nat.xor_lt_two_pow (n := 32) h k
theorem stN_xor (a b : Nat) : stN (a ^^^ b) = stN a ^^^ stN b := by
 have h1 : (a ^^^ b) / 2 = a / 2 ^^^ b / 2 := Nat.xor_div_two
 have h2 : (a ^^^ b) % 2 = (a + b) % 2 := by
  have := @Nat.xor_mod_two_eq_one a b
  omega
 have e1 : ∀ p q c : Nat, p ^^^ q ^^^ c = (p ^^^ c) ^^^ q := fun p q c => by rw [Nat.xor_assoc, Nat.xor_assoc, Nat.xor_comm q c]
 have e2 : ∀ p q c : Nat, p ^^^ q ^^^ c = p ^^^ (q ^^^ c) := fun p q c => Nat.xor_assoc _ _ _
 have e3 : ∀ p q c : Nat, p ^^^ q = (p ^^^ c) ^^^ (q ^^^ c) := fun p q c => by
  rw [Nat.xor_assoc, Nat.xor_comm q c, ← Nat.xor_assoc c c q, Nat.xor_self, Nat.zero_xor]
 unfold stN
 rw [h1, h2]
 rcases Nat.mod_two_eq_zero_or_one a with ha | ha <;> rcases Nat.mod_two_eq_zero_or_one b with hb | hb
 ·rw [if_neg (by omega), if_neg (by omega), if_neg (by omega)]
 ·rw [if_pos (by omega), if_neg (by omega), if_pos (by omega)]; exact e2 _ _ _
 ·rw [if_pos (by omega), if_pos (by omega), if_neg (by omega)]; exact e1 _ _ _
 ·rw [if_neg (by omega), if_pos (by omega), if_pos (by omega)]; exact e3 _ _ _
theorem itN_xor (a b : Nat) : ∀ k, itN k (a ^^^ b) = itN k a ^^^ itN k b
 | 0 => rfl
 | k + 1 => by simp only [itN]; rw [itN_xor a b k, stN_xor]
theorem itN_add (n : Nat) (j : Nat) : ∀ k, itN (k + j) n = itN k (itN j n)
 | 0 => by simp [itN]
 | k + 1 => by rw [Nat.succ_add]; simp only [itN]; rw [itN_add n j k]
theorem itN_mul (q : Nat) : ∀ k, itN k (2 ^ k * q) = q
 | 0 => by simp [itN]
 | k + 1 => by
  rw [itN_add _ 1 k]
  have : itN 1 (2 ^ (k + 1) * q) = 2 ^ k * q := by
   have e : 2 ^ (k + 1) * q = 2 * (2 ^ k * q) := by rw [Nat.pow_succ]; rw [Nat.mul_comm (2 ^ k) 2, Nat.mul_assoc]
   rw [e]
   show stN (2 * (2 ^ k * q)) = _
   generalize 2 ^ k * q = z
   unfold stN
   rw [if_neg (by omega)]; omega
  rw [this, itN_mul q k]
theorem it8 (q : Nat) : itN 8 (256 * q) = q := itN_mul q 8
theorem low8 (r : Nat) : r = (r % 256) ^^^ (256 * (r / 256)) := by
 have h : 256 * (r / 256) ^^^ (r % 256) = 256 * (r / 256) + r % 256 := by
  have h1 : 2 ^ 8 * (r / 256) + r % 256 = 2 ^ 8 * (r / 256) ||| (r % 256) := Nat.two_pow_add_eq_or_of_lt (by omega) _
  have h2 : (2 ^ 8 * (r / 256)) &&& (r % 256) = 0 := by
   rw [Nat.and_comm]
   apply Nat.eq_of_testBit_eq
   intro i
   simp only [Nat.testBit_and, Nat.zero_testBit, Nat.testBit_two_pow_mul]
   by_cases hi : 8 ≤ i
   ·have : (r % 256).testBit i = false := Nat.testBit_lt_two_pow (Nat.lt_of_lt_of_le (by omega : r % 256 < 2 ^ 8) (Nat.pow_le_pow_right (by omega) hi))
    simp [this]
   ·simp [hi]
  have h3 : ∀ a b : Nat, a &&& b = 0 → a ^^^ b = a ||| b := by
   intro a b hab
   apply Nat.eq_of_testBit_eq
   intro i
   have := congrArg (fun n => n.testBit i) hab
   simp only [Nat.testBit_and, Nat.zero_testBit] at this
   simp only [Nat.testBit_xor, Nat.testBit_or]
   cases ha : a.testBit i <;> cases hb : b.testBit i <;> simp_all
  have e : (256 : Nat) = 2 ^ 8 := rfl
  rw [show 256 * (r / 256) = 2 ^ 8 * (r / 256) from rfl, h3 _ _ h2, ← h1]
 rw [Nat.xor_comm, h]; omega
theorem it8_tab (r b : Nat) : itN 8 (r ^^^ b) = itN 8 ((r % 256) ^^^ b) ^^^ (r / 256) := by
 have e : r ^^^ b = ((r % 256) ^^^ b) ^^^ (256 * (r / 256)) := by
  rw [Nat.xor_assoc, Nat.xor_comm b, ← Nat.xor_assoc, ← low8]
 rw [e, itN_xor, it8]

theorem rgN_lt : ∀ {l : List Nat} {r : Nat}, (∀ x ∈ l, x < 256) → r < 4294967296 → rgN l r < 4294967296
 | [], _, _, hr => hr
 | x :: l, r, h, hr => by
  have := h x (by simp)
  exact rgN_lt (l := l) (fun y hy => h y (by simp [hy])) (itN_lt (xor_lt32 hr (by omega)) 8)
theorem rgN_app (a b : List Nat) (r : Nat) : rgN (a ++ b) r = rgN b (rgN a r) := by simp [rgN]
def w4 (a b c d : Nat) : Nat := a ^^^ (256 * b ^^^ (256 * (256 * c) ^^^ 256 * (256 * (256 * d))))
/- The program's numbers. -/
theorem wxor_u32 (a b : Nat) (ha : a < 4294967296) (hb : b < 4294967296) : wxor .u32 (a : Int) (b : Int) = ((a ^^^ b : Nat) : Int) := by
 have := xor_lt32 ha hb
 have e : ((BitVec.ofInt 32 (a : Int) ^^^ BitVec.ofInt 32 (b : Int)).toNat) = a ^^^ b := by
  simp [BitVec.toNat_xor, Nat.mod_eq_of_lt ha, Nat.mod_eq_of_lt hb]
 show IntKind.u32.wrap ((BitVec.ofInt 32 (a : Int) ^^^ BitVec.ofInt 32 (b : Int)).toNat : Int) = _
 rw [e]
 simp [IntKind.wrap, IntKind.signed, IntKind.bits]
 omega
theorem wxor_u8 (a b : Nat) (ha : a < 256) (hb : b < 256) : wxor .u8 (a : Int) (b : Int) = ((a ^^^ b : Nat) : Int) := by
 have : a ^^^ b < 256 := Nat.xor_lt_two_pow (n := 8) ha hb
 have e : ((BitVec.ofInt 8 (a : Int) ^^^ BitVec.ofInt 8 (b : Int)).toNat) = a ^^^ b := by
  simp [BitVec.toNat_xor, Nat.mod_eq_of_lt ha, Nat.mod_eq_of_lt hb]
 show IntKind.u8.wrap ((BitVec.ofInt 8 (a : Int) ^^^ BitVec.ofInt 8 (b : Int)).toNat : Int) = _
 rw [e]
 simp [IntKind.wrap, IntKind.signed, IntKind.bits]
 omega
theorem wnot_u32 (a : Nat) (ha : a < 4294967296) : wnot .u32 (a : Int) = ((a ^^^ M32 : Nat) : Int) := by
 rw [Nat.xor_comm]
 exact wxor_u32 M32 a (by decide) ha
theorem wshr_u32 (a k : Nat) : wshr .u32 (a : Int) (k : Int) = ((a / 2 ^ (min k 32) : Nat) : Int) := by
 simp only [wshr, IntKind.bits, Int.toNat_natCast]
 rw [Int.fdiv_eq_ediv_of_nonneg _ (by exact_mod_cast Nat.zero_le _)]
 push_cast
 rfl
theorem wcv_u8 (a : Nat) : wcv .u8 (a : Int) = ((a % 256 : Nat) : Int) := by
 simp [wcv, IntKind.wrap, IntKind.signed, IntKind.bits]
theorem wcv_u32 (a : Nat) (h : a < 4294967296) : wcv .u32 (a : Int) = (a : Int) := by
 simp [wcv, IntKind.wrap, IntKind.signed, IntKind.bits]; omega
theorem stepI_N (a : Nat) (h : a < 4294967296) : stepI (a : Int) = (stN a : Nat) := by
 have e1 : wshr .u32 (a : Int) 1 = ((a / 2 : Nat) : Int) := by have := wshr_u32 a 1; simpa using this
 have e2 : wrem (a : Int) 2 = ((a % 2 : Nat) : Int) := by
  unfold wrem
  rw [Int.tmod_eq_emod_of_nonneg (by omega)]; omega
 unfold stepI stN
 rw [e1, e2]
 by_cases hp : a % 2 = 1
 ·rw [if_pos (by rw [hp]; rfl), if_pos hp]
  exact wxor_u32 (a / 2) 3988292384 (by omega) (by decide)
 ·rw [if_neg (by intro e; exact hp (by exact_mod_cast e)), if_neg hp]
theorem itr_N (a : Nat) (h : a < 4294967296) : ∀ k, itr k (a : Int) = (itN k a : Nat)
 | 0 => rfl
 | k + 1 => by simp only [itr, itN]; rw [itr_N a h k, stepI_N _ (itN_lt h k)]
theorem tbl_N (i : Nat) (h : i < 256) : aget tbl (i : Int) = (itN 8 i : Nat) := by
 simp [aget, tbl, h]
 rw [wcv_u32 i (by omega), itr_N i (by omega)]
theorem stp_N (n b : Nat) (hn : n < 4294967296) (hb : b < 256) : stp (n : Int) (b : Int) = ((itN 8 ((n ^^^ M32) ^^^ b) ^^^ M32 : Nat) : Int) := by
 have hr : n ^^^ M32 < 4294967296 := xor_lt32 hn (by decide)
 have e8 : wshr .u32 (((n ^^^ M32 : Nat)) : Int) 8 = (((n ^^^ M32) / 256 : Nat) : Int) := by have := wshr_u32 (n ^^^ M32) 8; simpa using this
 have hx : (n ^^^ M32) % 256 ^^^ b < 256 := Nat.xor_lt_two_pow (n := 8) (by omega) hb
 have hi : idx (n : Int) (b : Int) = ((((n ^^^ M32) % 256) ^^^ b : Nat) : Int) := by
  unfold idx
  rw [wnot_u32 n hn, wcv_u8, wxor_u8 _ _ (by omega) hb]
 unfold stp
 rw [hi, tbl_N _ hx, wnot_u32 n hn, e8, wxor_u32 _ _ (itN_lt (by omega) 8) (by omega), ← it8_tab, wnot_u32 _ (itN_lt (xor_lt32 hr (by omega)) 8)]
abbrev nL (l : List Int) : List Nat := l.map Int.toNat
theorem xx (a : Nat) : (a ^^^ M32) ^^^ M32 = a := by rw [Nat.xor_assoc, Nat.xor_self, Nat.xor_zero]
theorem sum_N : ∀ (l : List Int) (n : Nat), Byts l → n < 4294967296 → sumL l (n : Int) = ((rgN (nL l) (n ^^^ M32) ^^^ M32 : Nat) : Int)
 | [], n, _, hn => by simp [sumL, rgN, Nat.xor_assoc]
 | x :: l, n, h, hn => by
  obtain ⟨h0, h1⟩ := h x (by simp)
  have ex : x = ((x.toNat : Nat) : Int) := by omega
  have hs := stp_N n x.toNat hn (by omega)
  rw [← ex] at hs
  have e : sumL (x :: l) (n : Int) = sumL l (stp (n : Int) x) := rfl
  have hl : itN 8 ((n ^^^ M32) ^^^ x.toNat) < 4294967296 := itN_lt (xor_lt32 (xor_lt32 hn (by decide)) (by omega)) 8
  rw [e, hs, sum_N l _ (fun y hy => h y (by simp [hy])) (xor_lt32 hl (by decide)), xx]
  rfl
theorem nL_lt {l : List Int} (h : Byts l) : ∀ x ∈ nL l, x < 256 := by
 intro x hx
 obtain ⟨y, hy, rfl⟩ := List.mem_map.1 hx
 have := h y hy
 omega
end Go.Proofs.YtbocfphenkidnaaGreatDoor.Seg

namespace Go.Proofs.YtbocfphenkidnaaGreatDoor.Sgr
open Go Go.Px Go.Proofs Cod Seg
set_option maxRecDepth 100000
set_option linter.unusedVariables false

abbrev ev7 (s a k : Int) (c : ByteArray) (x y z : Int) : SV := .agg [I s, I a, I k, S c, I x, I y, I z]
abbrev cx3 (s a : Int) (ns : List (List SV)) : SV := .agg [I s, I a, SL 1 ns]
abbrev sc10 (num bs ba : Int) (bn ev : List (List SV)) (as_ aa : Int) (an : List (List SV)) (st sz : Int) : SV := .agg [I num, I bs, I ba, SL 1 bn, SL 7 ev, I as_, I aa, SL 1 an, I st, I sz]
abbrev U32 (n : Int) : SV := SV.int .u32 n
def SgT : FuncId → Sig := (fun f => bif Nat.beq f 12 then ⟨[], [.own, .pure]⟩ else bif Nat.beq f 13 then ⟨[], [.own]⟩ else bif Nat.beq f 15 then ⟨[], [.own]⟩ else bif Nat.beq f 52 then ⟨[], [.own, .pure]⟩ else bif Nat.beq f 53 then ⟨[], [.own]⟩ else bif Nat.beq f 54 then ⟨[], [.own]⟩ else bif Nat.beq f 55 then ⟨[], [.own]⟩ else bif Nat.beq f 62 then ⟨[.lend [false,false,false,false,true,false,false,false,false,false,false]], []⟩ else bif Nat.beq f 63 then ⟨[.lend [false,false,false,false,true,false,false,false,false,false,false]], []⟩ else bif Nat.beq f 71 then ⟨[], [.own]⟩ else bif Nat.beq f 74 then ⟨[], [.own]⟩ else bif Nat.beq f 110 then ⟨[], [.own]⟩ else bif Nat.beq f 115 then ⟨[], [.own]⟩ else bif Nat.beq f 118 then ⟨[], [.own]⟩ else bif Nat.beq f 127 then ⟨[.lend [false,false,false,false,true,false,false,false,false,false,false]], []⟩ else bif Nat.beq f 128 then ⟨[.lend [false,false,false,false,true,false,false,false,false,false,false]], []⟩ else bif Nat.beq f 137 then ⟨[], [.own]⟩ else bif Nat.beq f 142 then ⟨[], [.own]⟩ else bif Nat.beq f 181 then ⟨[], [.own]⟩ else bif Nat.beq f 185 then ⟨[], [.own]⟩ else {})
def SvT : TypeId → Sig := (fun f => {})

theorem rstep_nf (n : Int) (Q : List SV → Prop) (h : (((2 : Int) = 0) → False) ∧ (ifB (ieq (wrem n 2) 1) ((((2 : Int) = 0) → False) ∧ (Q [SV.int .u32 (wxor .u32 (wquo .u32 n 2) 3988292384)])) ((((2 : Int) = 0) → False) ∧ (Q [SV.int .u32 (wquo .u32 n 2)])))) : Ct Tryz.prog 204 {} [U32 n] Q :=
 fn_of (f := 204) SgT SvT (fun _ => none) Tryz.f204 Tryz.func204 (by kernel_rfl) (by kernel_rfl) h

theorem rplain_nf (rows : LL) (Q : List SV → Prop) (h : ∃ Inv : Int → Int → Prop, ∃ m : Int → Int → Nat, (Inv 4294967295 0) ∧ (∀ x x1, (Inv x x1) → ifB (ilt x1 (rlen rows)) ((((0 : Int) ≤ x1) ∧ (x1 < (rlen rows))) ∧ (∃ x2, (rget rows x1 = [U8 x2]) ∧ (∃ Inv1 : Int → Int → Prop, ∃ m1 : Int → Int → Nat, (Inv1 (wxor .u32 x (wcv .u32 x2)) 0) ∧ (∀ x3 x4, (Inv1 x3 x4) → ifB (ilt x4 8) (Cl Tryz.prog 204 sP [SV.int .u32 x3] (fun rs => ∃ x5, (rs = [SV.int .u32 x5]) ∧ (((Option.some [] : Option (LL)) = Option.some []) ∧ ((Inv1 x5 (wadd .i64 x4 1)) ∧ (Nat.le (Nat.succ (m1 x5 (wadd .i64 x4 1))) (m1 x3 x4)))))) (((Option.some [] : Option (LL)) = Option.some []) ∧ ((Inv x3 (wadd .i64 x1 1)) ∧ (Nat.le (Nat.succ (m x3 (wadd .i64 x1 1))) (m x x1)))))))) (Q [SV.int .u32 (wxor .u32 x 4294967295)]))) : Ct Tryz.prog 143 {} [SL 1 rows] Q :=
 fn_of (f := 143) SgT SvT (fun _ => none) Tryz.f143 Tryz.func143 (by kernel_rfl) (by kernel_rfl) h

theorem rtail_nf (rows : LL) (n : Int) (Q : List SV → Prop) (h : ((lsum (rlen []) (rlen rows)) ≤ ((2147483648 : Int))) ∧ (∃ Inv : (LL) → Int → Int → Prop, ∃ m : (LL) → Int → Int → Nat, (Inv (rapp [] rows) n 0) ∧ (∀ l x x1, (Inv l x x1) → ifB (ilt x1 4) ((((256 : Int) = 0) → False) ∧ (((lsum (rlen l) (rlen ([[U8 (wcv .u8 (wrem x 256))]]))) ≤ ((2147483648 : Int))) ∧ ((((256 : Int) = 0) → False) ∧ (((Option.some [] : Option (LL)) = Option.some []) ∧ ((Inv (rapp l ([[U8 (wcv .u8 (wrem x 256))]])) (wquo .u32 x 256) (wadd .i64 x1 1)) ∧ (Nat.le (Nat.succ (m (rapp l ([[U8 (wcv .u8 (wrem x 256))]])) (wquo .u32 x 256) (wadd .i64 x1 1))) (m l x x1))))))) (Q [SL 1 l])))) : Ct Tryz.prog 142 ⟨[], [.own]⟩ [SL 1 rows, U32 n] Q :=
 fn_of (f := 142) SgT SvT (fun _ => none) Tryz.f142 Tryz.func142 (by kernel_rfl) (by kernel_rfl) h

theorem rseal_nf (rows : LL) (Q : List SV → Prop) (h : Cl Tryz.prog 143 sP [SL 1 rows] (fun rs => ∃ x, (rs = [SV.int .u32 x]) ∧ (Cl Tryz.prog 142 sO [SL 1 rows, SV.int .u32 x] (fun rs1 => ∃ l, (rs1 = [SL 1 l]) ∧ (Q [SL 1 l]))))) : Ct Tryz.prog 74 ⟨[], [.own]⟩ [SL 1 rows] Q :=
 fn_of (f := 74) SgT SvT (fun _ => none) Tryz.f74 Tryz.func74 (by kernel_rfl) (by kernel_rfl) h

theorem ropens_nf (rows : LL) (Q : List SV → Prop) (h : ifB (ige (rlen rows) 4) ((((0 : Int) ≤ 0) ∧ (((0 : Int) ≤ (wsub .i64 (rlen rows) 4)) ∧ ((wsub .i64 (rlen rows) 4) ≤ (rlen rows)))) ∧ ((isBytes rows) ∧ (Cl Tryz.prog 74 sO [SL 1 (rsub rows 0 (wsub .i64 (rlen rows) 4))] (fun rs => ∃ l, (rs = [SL 1 l]) ∧ ((isBytes l) ∧ (Q [B (seq (bstr l) (bstr rows))])))))) (Q [B false])) : Ct Tryz.prog 79 {} [SL 1 rows] Q :=
 fn_of (f := 79) SgT SvT (fun _ => none) Tryz.f79 Tryz.func79 (by kernel_rfl) (by kernel_rfl) h

theorem rput_nf (k : Int) (rows : LL) (Q : List SV → Prop) (h : (((256 : Int) = 0) → False) ∧ ((((256 : Int) = 0) → False) ∧ (((lsum (rlen ([[U8 (wcv .u8 (wquo .i64 (rlen rows) 256))], [U8 (wcv .u8 (wrem (rlen rows) 256))], [U8 (wcv .u8 k)]])) (rlen rows)) ≤ ((2147483648 : Int))) ∧ (Cl Tryz.prog 74 sO ([SV.slice 1 (rapp ([[U8 (wcv .u8 (wquo .i64 (rlen rows) 256))], [U8 (wcv .u8 (wrem (rlen rows) 256))], [U8 (wcv .u8 k)]]) rows) 0]) (fun rs => ∃ l, (rs = [SL 1 l]) ∧ (Q [SL 1 l])))))) : Ct Tryz.prog 55 ⟨[], [.own]⟩ [I k, SL 1 rows] Q :=
 fn_of (f := 55) SgT SvT (fun _ => none) Tryz.f55 Tryz.func55 (by kernel_rfl) (by kernel_rfl) h


theorem wquo_u32 (a k : Nat) (h : a < 4294967296) (hk : 0 < k) : wquo .u32 (a : Int) (k : Int) = ((a / k : Nat) : Int) := by
 unfold wquo
 have hle : a / k ≤ a := Nat.div_le_self _ _
 rw [Int.tdiv_eq_ediv_of_nonneg (by omega)]
 have e : (a : Int) / (k : Int) = ((a / k : Nat) : Int) := by push_cast; rfl
 rw [e]
 exact wcv_u32 _ (by omega)

theorem rstep_fn (n : Nat) (h : n < 4294967296) : Ct Tryz.prog 204 {} [U32 (n : Int)] (fun r => r = [U32 ((stN n : Nat) : Int)]) := by
 have e2 : wrem (n : Int) 2 = ((n % 2 : Nat) : Int) := by
  unfold wrem
  rw [Int.tmod_eq_emod_of_nonneg (by omega)]; omega
 have e1 : wquo .u32 (n : Int) 2 = ((n / 2 : Nat) : Int) := wquo_u32 n 2 h (by omega)
 refine rstep_nf _ _ ⟨by omega, ?_⟩
 rw [e1, e2]
 refine ifB_intro (fun hp => ⟨by omega, ?_⟩) (fun hp => ⟨by omega, ?_⟩)
 ·simp at hp
  have : n % 2 = 1 := by omega
  have hx := wxor_u32 (n / 2) 3988292384 (by omega) (by decide)
  have hx' : wxor .u32 ((n / 2 : Nat) : Int) 3988292384 = (((n / 2) ^^^ 3988292384 : Nat) : Int) := hx
  rw [hx']
  simp [stN, this]
 ·simp at hp
  have : ¬ n % 2 = 1 := by omega
  simp [stN, this]

theorem rplain_fn (l : List Int) (hb : Byts l) (hl : l.length ≤ 1000000) : Ct Tryz.prog 143 {} [SL 1 (bR l)] (fun r => r = [U32 (sumL l 0)]) := by
 have hrl : rlen (bR l) = l.length := by simp [rlen]
 refine rplain_nf _ _ ⟨fun x x1 => 0 ≤ x1 ∧ x1 ≤ l.length ∧ x = ((rgN (nL (l.take x1.toNat)) M32 : Nat) : Int), fun _ x1 => (l.length - x1).toNat, ⟨by omega, by omega, by simp [rgN]⟩, ?_⟩
 rintro _ x1 ⟨i0, i1, rfl⟩
 have hbt : Byts (l.take x1.toNat) := hb.sub fun x hx => List.mem_of_mem_take hx
 have hr := rgN_lt (r := M32) (nL_lt hbt) (by decide)
 rw [hrl]
 refine ifB_intro (fun h => ?_) (fun h => ?_)
 ·simp at h
  have hlt : x1.toNat < l.length := by omega
  have w : wadd IntKind.i64 x1 1 = x1 + 1 := wadd_i64 (by omega) (by omega)
  have hby := hb l[x1.toNat] (List.getElem_mem hlt)
  have eb : l[x1.toNat] = ((l[x1.toNat].toNat : Nat) : Int) := by omega
  have hg : rget (bR l) x1 = [U8 ((l[x1.toNat].toNat : Nat) : Int)] := by rw [← eb]; simp [rget, hlt]
  generalize hbv : l[x1.toNat].toNat = b at *
  have hb8 : b < 256 := by omega
  refine ⟨⟨i0, h⟩, (b : Int), hg, ?_⟩
  rw [wcv_u32 b (by omega), wxor_u32 _ b hr (by omega), w]
  have hrx := xor_lt32 hr (show b < 4294967296 by omega)
  refine ⟨fun x3 x4 => 0 ≤ x4 ∧ x4 ≤ 8 ∧ x3 = ((itN x4.toNat (rgN (nL (l.take x1.toNat)) M32 ^^^ b) : Nat) : Int), fun _ x4 => (8 - x4).toNat, ⟨by omega, by omega, rfl⟩, ?_⟩
  rintro _ x4 ⟨j0, j1, rfl⟩
  refine ifB_intro (fun h => ?_) (fun h => ?_)
  ·simp at h
   have w4 : wadd IntKind.i64 x4 1 = x4 + 1 := wadd_i64 (by omega) (by omega)
   refine Cl.of (rstep_fn _ (itN_lt hrx _)) ⟨_, rfl, ?_⟩
   rw [w4]
   refine ⟨rfl, ⟨by omega, by omega, ?_⟩, mlt (by dsimp only; omega)⟩
   rw [show (x4 + 1).toNat = x4.toNat + 1 by omega]; rfl
  ·simp at h
   refine ⟨rfl, ⟨by omega, by omega, ?_⟩, mlt (by dsimp only; omega)⟩
   have e8 : x4.toNat = 8 := by omega
   rw [e8, show (x1 + 1).toNat = x1.toNat + 1 by omega, List.take_succ_eq_append_getElem hlt]
   have hap : nL (l.take x1.toNat ++ [l[x1.toNat]]) = nL (l.take x1.toNat) ++ [b] := by
    rw [nL, List.map_append]; simp only [List.map_cons, List.map_nil, hbv]
   rw [hap, rgN_app]
   rfl
 ·simp at h
  have ht : l.take x1.toNat = l := List.take_of_length_le (by omega)
  rw [ht] at hr ⊢
  have hx := wxor_u32 (rgN (nL l) M32) 4294967295 hr (by decide)
  have hx' : wxor .u32 ((rgN (nL l) M32 : Nat) : Int) 4294967295 = ((rgN (nL l) M32 ^^^ 4294967295 : Nat) : Int) := hx
  have hs := sum_N l 0 hb (by decide)
  rw [Nat.zero_xor] at hs
  have hs' : sumL l 0 = ((rgN (nL l) M32 ^^^ M32 : Nat) : Int) := hs
  rw [hx', hs']

theorem sum_nat {l : List Int} (hb : Byts l) : ∃ n : Nat, sumL l 0 = (n : Int) ∧ n < 4294967296 := by
 have hs := sum_N l 0 hb (by decide)
 rw [Nat.zero_xor] at hs
 exact ⟨_, hs, xor_lt32 (rgN_lt (nL_lt hb) (by decide)) (by decide)⟩

theorem s4_nat (v : Nat) : s4 (v : Int) = [((v % 256 : Nat) : Int), ((v / 256 % 256 : Nat) : Int), ((v / 65536 % 256 : Nat) : Int), ((v / 16777216 % 256 : Nat) : Int)] := by
 have a0 := wshr_u32 v 0
 have a1 := wshr_u32 v 8
 have a2 := wshr_u32 v 16
 have a3 := wshr_u32 v 24
 simp at a0 a1 a2 a3
 have b0 : wshr .u32 (v : Int) 0 = ((v : Nat) : Int) := a0
 have b1 : wshr .u32 (v : Int) 8 = ((v / 256 : Nat) : Int) := by rw [a1]; rfl
 have b2 : wshr .u32 (v : Int) 16 = ((v / 65536 : Nat) : Int) := by rw [a2]; rfl
 have b3 : wshr .u32 (v : Int) 24 = ((v / 16777216 : Nat) : Int) := by rw [a3]; rfl
 simp only [s4]
 rw [b0, b1, b2, b3, wcv_u8, wcv_u8, wcv_u8, wcv_u8]

theorem rtail_fn (l : List Int) (n : Nat) (hn : n < 4294967296) (hl : l.length ≤ 1000000) : Ct Tryz.prog 142 ⟨[], [.own]⟩ [SL 1 (bR l), U32 (n : Int)] (fun r => r = [SL 1 (bR (l ++ s4 n))]) := by
 have hrl : rlen (bR l) = l.length := by simp [rlen]
 refine rtail_nf _ _ _ ⟨by simp [lsum, rlen]; omega, fun q x x1 => 0 ≤ x1 ∧ x1 ≤ 4 ∧ x = ((n / 256 ^ x1.toNat : Nat) : Int) ∧ q = bR (l ++ (s4 n).take x1.toNat), fun _ _ x1 => (4 - x1).toNat, ⟨by omega, by omega, by simp, by simp [rapp]⟩, ?_⟩
 rintro _ _ x1 ⟨i0, i1, rfl, rfl⟩
 refine ifB_intro (fun h => ?_) (fun h => ?_)
 ·simp at h
  have hle : n / 256 ^ x1.toNat ≤ n := Nat.div_le_self _ _
  have w : wadd IntKind.i64 x1 1 = x1 + 1 := wadd_i64 (by omega) (by omega)
  have e2 : wrem ((n / 256 ^ x1.toNat : Nat) : Int) 256 = ((n / 256 ^ x1.toNat % 256 : Nat) : Int) := by
   generalize n / 256 ^ x1.toNat = z
   unfold wrem
   rw [Int.tmod_eq_emod_of_nonneg (by omega)]; omega
  have e1 : wquo .u32 ((n / 256 ^ x1.toNat : Nat) : Int) 256 = ((n / 256 ^ x1.toNat / 256 : Nat) : Int) := wquo_u32 _ 256 (by omega) (by omega)
  have e3 : wcv IntKind.u8 ((n / 256 ^ x1.toNat % 256 : Nat) : Int) = ((n / 256 ^ x1.toNat % 256 : Nat) : Int) := by rw [wcv_u8]; simp
  rw [e2, e3, e1, w]
  refine ⟨by omega, ?_, by omega, rfl, ⟨by omega, by omega, ?_, ?_⟩, mlt (by dsimp only; omega)⟩
  ·simp [lsum, rlen]; omega
  ·rw [show (x1 + 1).toNat = x1.toNat + 1 by omega, Nat.pow_succ, Nat.div_div_eq_div_mul]
  ·have hx : x1 = 0 ∨ x1 = 1 ∨ x1 = 2 ∨ x1 = 3 := by omega
   rw [s4_nat]
   rcases hx with rfl | rfl | rfl | rfl <;> simp [rapp]
 ·simp at h
  rw [List.take_of_length_le (by rw [s4_len]; omega)]

theorem rseal_fn (l : List Int) (hb : Byts l) (hl : l.length ≤ 1000000) : Ct Tryz.prog 74 ⟨[], [.own]⟩ [SL 1 (bR l)] (fun r => r = [SL 1 (bR (sealB l))]) := by
 obtain ⟨n, hn, hlt⟩ := sum_nat hb
 refine rseal_nf _ _ (Cl.of (rplain_fn l hb hl) ⟨_, rfl, ?_⟩)
 rw [hn]
 refine Cl.of (rtail_fn l n hlt hl) ⟨_, rfl, ?_⟩
 rw [sealB, hn]

theorem bstr_seq {l m : List Int} (hl : Byts l) (hm : Byts m) : seq (bstr (bR l)) (bstr (bR m)) = decide (l = m) := by
 rw [seq_d]
 exact decide_eq_decide.2 (bstr_inj hl hm)
theorem bstr_sne {l m : List Int} (hl : Byts l) (hm : Byts m) : sne (bstr (bR l)) (bstr (bR m)) = decide (l ≠ m) := by
 have := bstr_seq hl hm
 unfold seq at this
 unfold sne
 rw [this]; simp

theorem ropens_fn (l : List Int) (hb : Byts l) (hl : l.length ≤ 1000000) : Ct Tryz.prog 79 {} [SL 1 (bR l)] (fun r => r = [B (decide (4 ≤ l.length ∧ sealB (l.take (l.length - 4)) = l))]) := by
 have hrl : rlen (bR l) = l.length := by simp [rlen]
 refine ropens_nf _ _ ?_
 rw [hrl]
 refine ifB_intro (fun h => ?_) (fun h => ?_)
 ·simp at h
  have w : wsub IntKind.i64 (l.length : Int) 4 = l.length - 4 := wsub_i64 (by omega) (by omega)
  rw [w]
  have ht : ((l.length : Int) - 4).toNat = l.length - 4 := by omega
  have hs : rsub (bR l) 0 ((l.length : Int) - 4) = bR (l.take (l.length - 4)) := by rw [rsub_bR, ht]; simp
  rw [hs]
  have hbt : Byts (l.take (l.length - 4)) := hb.sub fun x hx => List.mem_of_mem_take hx
  refine ⟨⟨by omega, by omega, by omega⟩, isBytes_bR hb, Cl.of (rseal_fn _ hbt (by simp; omega)) ⟨_, rfl, isBytes_bR (sealB_byts hbt), ?_⟩⟩
  rw [bstr_seq (sealB_byts hbt) hb]
  have : 4 ≤ l.length := by omega
  simp [this]
 ·simp at h
  have : ¬ 4 ≤ l.length := by omega
  simp [this]

theorem rput_fn (k : Int) (l : List Int) (hk : 0 ≤ k ∧ k ≤ 255) (hb : Byts l) (hl : l.length ≤ 255) : Ct Tryz.prog 55 ⟨[], [.own]⟩ [I k, SL 1 (bR l)] (fun r => r = [SL 1 (bR (fr k l))]) := by
 have hrl : rlen (bR l) = l.length := by simp [rlen]
 have e1 : wquo IntKind.i64 (l.length : Int) 256 = 0 := by
  unfold wquo
  rw [Int.tdiv_eq_ediv_of_nonneg (by omega), show (l.length : Int) / 256 = 0 by omega]; rfl
 have e2 : wrem (l.length : Int) 256 = l.length := by
  unfold wrem
  rw [Int.tmod_eq_emod_of_nonneg (by omega)]; omega
 have e3 : wcv IntKind.u8 (l.length : Int) = l.length := wcv8 (by omega) (by omega)
 have e4 : wcv IntKind.u8 k = k := wcv8 (by omega) (by omega)
 have e0 : wcv IntKind.u8 0 = 0 := rfl
 refine rput_nf _ _ _ ?_
 rw [hrl, e1, e2, e3, e4, e0]
 have e5 : rapp [[U8 0], [U8 (l.length : Int)], [U8 k]] (bR l) = bR (0 :: (l.length : Int) :: k :: l) := rfl
 rw [e5]
 refine ⟨by omega, by omega, by simp [lsum, rlen]; omega, Cl.of (rseal_fn _ ?_ (by simp; omega)) ⟨_, rfl, rfl⟩⟩
 intro x hx
 simp at hx
 rcases hx with rfl | rfl | rfl | hx
 ·omega
 ·omega
 ·omega
 ·exact hb x hx

end Go.Proofs.YtbocfphenkidnaaGreatDoor.Sgr

namespace Go.Proofs.YtbocfphenkidnaaGreatDoor.Seg
open Go Go.Px Go.Proofs Cod
set_option maxRecDepth 100000
set_option linter.unusedVariables false



def e1 : EvD := ⟨4, 9, 4, ByteArray.mk (Array.mk [100, 98]), 1, 0, 0⟩
def e2 : EvD := ⟨5, 9, 7, ByteArray.mk (Array.mk [113]), 0, 0, 0⟩
end Go.Proofs.YtbocfphenkidnaaGreatDoor.Seg

namespace Go.Proofs.YtbocfphenkidnaaGreatDoor.Sgr
open Go Go.Px Go.Proofs Cod Seg
set_option maxRecDepth 100000
set_option linter.unusedVariables false

def dgs : Nat → Nat → List UInt8
 | 0, _ => []
 | k + 1, n => dgs k (n / 10) ++ [UInt8.ofNat (48 + n % 10)]
theorem dgs_len : ∀ (k n : Nat), (dgs k n).length = k
 | 0, _ => rfl
 | k + 1, n => by simp [dgs, dgs_len k]
theorem dgs_cons : ∀ (k n : Nat), dgs (k + 1) n = UInt8.ofNat (48 + n / 10 ^ k % 10) :: dgs k n
 | 0, n => by simp [dgs]
 | k + 1, n => by
  have h := dgs_cons k (n / 10)
  rw [dgs, h, dgs]
  have : n / 10 / 10 ^ k = n / 10 ^ (k + 1) := by rw [Nat.div_div_eq_div_mul, Nat.pow_succ, Nat.mul_comm]
  rw [this]; rfl
theorem dgs_zero : ∀ k, dgs k 0 = List.replicate k 48
 | 0 => rfl
 | k + 1 => by
  rw [dgs]
  simp only [Nat.zero_div, dgs_zero k]
  rw [List.replicate_succ']; rfl
theorem dgs_dec : ∀ (k n : Nat), 1 ≤ k → n < 10 ^ k → List.replicate (k - (Lib.decDigits n).length) 48 ++ Lib.decDigits n = dgs k n
 | 0, _, h, _ => by omega
 | k + 1, n, _, hn => by
  by_cases h : n < 10
  ·rw [Lib.decDigits_one h, dgs, show n / 10 = 0 by omega, dgs_zero, List.length_singleton, Nat.add_sub_cancel, Nat.mod_eq_of_lt h]
  ·have h1 : 1 ≤ k := by
    rcases k with _ | k
    ·omega
    ·omega
   have ih := dgs_dec k (n / 10) h1 (by rw [Nat.pow_succ] at hn; omega)
   have e : Lib.decDigits n = Lib.decDigits (n / 10) ++ [UInt8.ofNat (48 + n % 10)] := by rw [Lib.decDigits, dif_neg h]
   rw [e, dgs, ← ih]
   simp
theorem decDigits_le {k n : Nat} (h1 : 1 ≤ k) (h : n < 10 ^ k) : (Lib.decDigits n).length ≤ k := by
 have := congrArg List.length (dgs_dec k n h1 h)
 rw [dgs_len] at this
 simp at this
 omega
theorem scat_l (a b : List UInt8) : scat ⟨a.toArray⟩ ⟨b.toArray⟩ = ⟨(a ++ b).toArray⟩ := by
 unfold scat
 apply ByteArray.ext
 simp
theorem slen_l (a : List UInt8) : slen ⟨a.toArray⟩ = a.length := by simp [slen, ByteArray.size]
theorem repeat0 (c : Nat) : Lib.repeatL [48] c = List.replicate c 48 := by
 have := Lib.repeatL_replicate 48 1 c
 simpa using this

def segNm (n : Int) : ByteArray := if 1 ≤ n ∧ n ≤ 99999999 then ⟨([115, 101, 103, 46] ++ dgs 8 n.toNat).toArray⟩ else ByteArray.mk #[]

theorem digit_row (d : Nat) (h : d < 10) : bstr [[U8 (wadd IntKind.u8 48 (wcv IntKind.u8 (d : Int)))]] = ⟨[UInt8.ofNat (48 + d)].toArray⟩ ∧ isBytes [[U8 (wadd IntKind.u8 48 (wcv IntKind.u8 (d : Int)))]] := by
 have e : wadd IntKind.u8 48 (wcv IntKind.u8 (d : Int)) = ((48 + d : Nat) : Int) := by
  rw [wcv_u8]
  simp [wadd, IntKind.wrap, IntKind.signed, IntKind.bits]
  omega
 rw [e]
 refine ⟨by simp only [bstr, List.map_cons, List.map_nil, byteOfRow, Int.toNat_natCast], fun r hr => ?_⟩
 simp at hr
 exact ⟨_, hr, by omega, by omega⟩

def addR (s a : Int) (m : List ByteArray) (e : EvD) : List SV :=
 if encE s a m e = 0 then [SL 1 (bR (fr 2 (encL s a m e))), cx3 e.s e.a (nR (bhdN m e.c)), I 0] else [SL 1 [], cx3 s a (nR m), I (encE s a m e)]

def recE : Int → Int → List ByteArray → List EvD → Int
 | _, _, _, [] => 0
 | s, a, m, e :: l => if encE s a m e = 0 then recE e.s e.a (bhdN m e.c) l else encE s a m e
instance (n s a : Int) : Decidable (Seg.headOK n s a) := by unfold Seg.headOK ctxOK; infer_instance
def mkE (n s a : Int) (m : List ByteArray) (l : List EvD) : Int := if headOK n s a ∧ m = [] then recE s a [] l else 1
def mkR (n s a : Int) (m : List ByteArray) (l : List EvD) (sl : Bool) : List SV := if mkE n s a m l = 0 then [SL 1 (bR (segL (mkS n s a l sl))), I 0] else [SL 1 [], I (mkE n s a m l)]


abbrev QR (l : List Int) (r : List SV) : Prop := ∃ d st, r = [scanS d st (segL d).length] ∧ RdO l d st

theorem RdO.eq {l : List Int} {d t : Sc} {st st' : Int} (h : RdO l d st) (k : RdO l t st') : d = t ∧ st = st' := by
 have h1 := h.far k.ok k.pre
 have h2 := k.far h.ok h.pre
 obtain ⟨l1, e1⟩ := h1.len k.ok h.ok
 obtain ⟨l2, e2⟩ := h2.len h.ok k.ok
 have e : t = d := e1 (by omega)
 subst e
 refine ⟨rfl, ?_⟩
 rcases h.ext with ⟨w, k1, p, n, hw, e, hst⟩ | ⟨k1, p, n, e, tk, hst⟩ <;> rcases k.ext with ⟨w', k1', p', n', hw', e', hst'⟩ | ⟨k1', p', n', e', tk', hst'⟩
 ·rw [e] at e'; simp only [Prod.mk.injEq] at e'; rw [hst, hst', e'.1]
 ·rw [e] at e'; simp only [Prod.mk.injEq] at e'; exact absurd e'.1 hw
 ·rw [e] at e'; simp only [Prod.mk.injEq] at e'; exact absurd e'.1.symm hw'
 ·rw [hst, hst']

end Go.Proofs.YtbocfphenkidnaaGreatDoor.Sgr
