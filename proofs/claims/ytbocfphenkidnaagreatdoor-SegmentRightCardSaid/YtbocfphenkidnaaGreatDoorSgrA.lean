/- The sum of bytes as a register that is linear over xor: bit by bit, and what four bytes in a row do to it. -/
import Derived.Test.YtbocfphenkidnaaGreatDoorSegA
import Derived.Test.YtbocfphenkidnaaGreatDoorShf
namespace Go.Proofs.YtbocfphenkidnaaGreatDoor.Seg
open Go Go.Px Go.Proofs Go.Proofs.YtbocfphenkidnaaGreatDoor.Cod
set_option maxRecDepth 100000
set_option linter.unusedVariables false

def stN (n : Nat) : Nat := if n % 2 = 1 then n / 2 ^^^ 3988292384 else n / 2
def itN : Nat → Nat → Nat
  | 0, n => n
  | k + 1, n => stN (itN k n)
abbrev M32 : Nat := 4294967295
def rgN (l : List Nat) (r : Nat) : Nat := l.foldl (fun r b => itN 8 (r ^^^ b)) r

theorem stN_lt {n : Nat} (h : n < 4294967296) : stN n < 4294967296 := by
  unfold stN
  split
  · exact Nat.xor_lt_two_pow (n := 32) (by omega) (by decide)
  · omega
theorem itN_lt {n : Nat} (h : n < 4294967296) : ∀ k, itN k n < 4294967296
  | 0 => h
  | k + 1 => stN_lt (itN_lt h k)
theorem xor_lt32 {a b : Nat} (h : a < 4294967296) (k : b < 4294967296) : a ^^^ b < 4294967296 := Nat.xor_lt_two_pow (n := 32) h k
theorem stN_xor (a b : Nat) : stN (a ^^^ b) = stN a ^^^ stN b := by
  have h1 : (a ^^^ b) / 2 = a / 2 ^^^ b / 2 := Nat.xor_div_two
  have h2 : (a ^^^ b) % 2 = (a + b) % 2 := by
    have := @Nat.xor_mod_two_eq_one a b
    omega
  have e1 : ∀ p q c : Nat, p ^^^ q ^^^ c = (p ^^^ c) ^^^ q := fun p q c => by rw [Nat.xor_assoc, Nat.xor_assoc, Nat.xor_comm q c]
  have e2 : ∀ p q c : Nat, p ^^^ q ^^^ c = p ^^^ (q ^^^ c) := fun p q c => Nat.xor_assoc _ _ _
  have e3 : ∀ p q c : Nat, p ^^^ q = (p ^^^ c) ^^^ (q ^^^ c) := fun p q c => by
    rw [Nat.xor_assoc, Nat.xor_comm q c, ← Nat.xor_assoc c c q, Nat.xor_self, Nat.zero_xor]
  unfold stN
  rw [h1, h2]
  rcases Nat.mod_two_eq_zero_or_one a with ha | ha <;> rcases Nat.mod_two_eq_zero_or_one b with hb | hb
  · rw [if_neg (by omega), if_neg (by omega), if_neg (by omega)]
  · rw [if_pos (by omega), if_neg (by omega), if_pos (by omega)]; exact e2 _ _ _
  · rw [if_pos (by omega), if_pos (by omega), if_neg (by omega)]; exact e1 _ _ _
  · rw [if_neg (by omega), if_pos (by omega), if_pos (by omega)]; exact e3 _ _ _
theorem itN_xor (a b : Nat) : ∀ k, itN k (a ^^^ b) = itN k a ^^^ itN k b
  | 0 => rfl
  | k + 1 => by simp only [itN]; rw [itN_xor a b k, stN_xor]
theorem itN_add (n : Nat) (j : Nat) : ∀ k, itN (k + j) n = itN k (itN j n)
  | 0 => by simp [itN]
  | k + 1 => by rw [Nat.succ_add]; simp only [itN]; rw [itN_add n j k]
theorem itN_mul (q : Nat) : ∀ k, itN k (2 ^ k * q) = q
  | 0 => by simp [itN]
  | k + 1 => by
    rw [itN_add _ 1 k]
    have : itN 1 (2 ^ (k + 1) * q) = 2 ^ k * q := by
      have e : 2 ^ (k + 1) * q = 2 * (2 ^ k * q) := by rw [Nat.pow_succ]; rw [Nat.mul_comm (2 ^ k) 2, Nat.mul_assoc]
      rw [e]
      show stN (2 * (2 ^ k * q)) = _
      generalize 2 ^ k * q = z
      unfold stN
      rw [if_neg (by omega)]; omega
    rw [this, itN_mul q k]
theorem it8 (q : Nat) : itN 8 (256 * q) = q := itN_mul q 8
theorem low8 (r : Nat) : r = (r % 256) ^^^ (256 * (r / 256)) := by
  have h : 256 * (r / 256) ^^^ (r % 256) = 256 * (r / 256) + r % 256 := by
    have h1 : 2 ^ 8 * (r / 256) + r % 256 = 2 ^ 8 * (r / 256) ||| (r % 256) := Nat.two_pow_add_eq_or_of_lt (by omega) _
    have h2 : (2 ^ 8 * (r / 256)) &&& (r % 256) = 0 := by
      rw [Nat.and_comm]
      apply Nat.eq_of_testBit_eq
      intro i
      simp only [Nat.testBit_and, Nat.zero_testBit, Nat.testBit_two_pow_mul]
      by_cases hi : 8 ≤ i
      · have : (r % 256).testBit i = false := Nat.testBit_lt_two_pow (Nat.lt_of_lt_of_le (by omega : r % 256 < 2 ^ 8) (Nat.pow_le_pow_right (by omega) hi))
        simp [this]
      · simp [hi]
    have h3 : ∀ a b : Nat, a &&& b = 0 → a ^^^ b = a ||| b := by
      intro a b hab
      apply Nat.eq_of_testBit_eq
      intro i
      have := congrArg (fun n => n.testBit i) hab
      simp only [Nat.testBit_and, Nat.zero_testBit] at this
      simp only [Nat.testBit_xor, Nat.testBit_or]
      cases ha : a.testBit i <;> cases hb : b.testBit i <;> simp_all
    have e : (256 : Nat) = 2 ^ 8 := rfl
    rw [show 256 * (r / 256) = 2 ^ 8 * (r / 256) from rfl, h3 _ _ h2, ← h1]
  rw [Nat.xor_comm, h]; omega
/-- The table's way. -/
theorem it8_tab (r b : Nat) : itN 8 (r ^^^ b) = itN 8 ((r % 256) ^^^ b) ^^^ (r / 256) := by
  have e : r ^^^ b = ((r % 256) ^^^ b) ^^^ (256 * (r / 256)) := by
    rw [Nat.xor_assoc, Nat.xor_comm b, ← Nat.xor_assoc, ← low8]
  rw [e, itN_xor, it8]

theorem rgN_lt : ∀ {l : List Nat} {r : Nat}, (∀ x ∈ l, x < 256) → r < 4294967296 → rgN l r < 4294967296
  | [], _, _, hr => hr
  | x :: l, r, h, hr => by
    have := h x (by simp)
    exact rgN_lt (l := l) (fun y hy => h y (by simp [hy])) (itN_lt (xor_lt32 hr (by omega)) 8)
theorem rgN_app (a b : List Nat) (r : Nat) : rgN (a ++ b) r = rgN b (rgN a r) := by simp [rgN]
def w4 (a b c d : Nat) : Nat := a ^^^ (256 * b ^^^ (256 * (256 * c) ^^^ 256 * (256 * (256 * d))))
/- The program's numbers. -/
theorem wxor_u32 (a b : Nat) (ha : a < 4294967296) (hb : b < 4294967296) : wxor .u32 (a : Int) (b : Int) = ((a ^^^ b : Nat) : Int) := by
  have := xor_lt32 ha hb
  have e : ((BitVec.ofInt 32 (a : Int) ^^^ BitVec.ofInt 32 (b : Int)).toNat) = a ^^^ b := by
    simp [BitVec.toNat_xor, Nat.mod_eq_of_lt ha, Nat.mod_eq_of_lt hb]
  show IntKind.u32.wrap ((BitVec.ofInt 32 (a : Int) ^^^ BitVec.ofInt 32 (b : Int)).toNat : Int) = _
  rw [e]
  simp [IntKind.wrap, IntKind.signed, IntKind.bits]
  omega
theorem wxor_u8 (a b : Nat) (ha : a < 256) (hb : b < 256) : wxor .u8 (a : Int) (b : Int) = ((a ^^^ b : Nat) : Int) := by
  have : a ^^^ b < 256 := Nat.xor_lt_two_pow (n := 8) ha hb
  have e : ((BitVec.ofInt 8 (a : Int) ^^^ BitVec.ofInt 8 (b : Int)).toNat) = a ^^^ b := by
    simp [BitVec.toNat_xor, Nat.mod_eq_of_lt ha, Nat.mod_eq_of_lt hb]
  show IntKind.u8.wrap ((BitVec.ofInt 8 (a : Int) ^^^ BitVec.ofInt 8 (b : Int)).toNat : Int) = _
  rw [e]
  simp [IntKind.wrap, IntKind.signed, IntKind.bits]
  omega
theorem wnot_u32 (a : Nat) (ha : a < 4294967296) : wnot .u32 (a : Int) = ((a ^^^ M32 : Nat) : Int) := by
  rw [Nat.xor_comm]
  exact wxor_u32 M32 a (by decide) ha
theorem wshr_u32 (a k : Nat) : wshr .u32 (a : Int) (k : Int) = ((a / 2 ^ (min k 32) : Nat) : Int) := by
  simp only [wshr, IntKind.bits, Int.toNat_natCast]
  rw [Int.fdiv_eq_ediv_of_nonneg _ (by exact_mod_cast Nat.zero_le _)]
  push_cast
  rfl
theorem wcv_u8 (a : Nat) : wcv .u8 (a : Int) = ((a % 256 : Nat) : Int) := by
  simp [wcv, IntKind.wrap, IntKind.signed, IntKind.bits]
theorem wcv_u32 (a : Nat) (h : a < 4294967296) : wcv .u32 (a : Int) = (a : Int) := by
  simp [wcv, IntKind.wrap, IntKind.signed, IntKind.bits]; omega
theorem stepI_N (a : Nat) (h : a < 4294967296) : stepI (a : Int) = (stN a : Nat) := by
  have e1 : wshr .u32 (a : Int) 1 = ((a / 2 : Nat) : Int) := by have := wshr_u32 a 1; simpa using this
  have e2 : wrem (a : Int) 2 = ((a % 2 : Nat) : Int) := by
    unfold wrem
    rw [Int.tmod_eq_emod_of_nonneg (by omega)]; omega
  unfold stepI stN
  rw [e1, e2]
  by_cases hp : a % 2 = 1
  · rw [if_pos (by rw [hp]; rfl), if_pos hp]
    exact wxor_u32 (a / 2) 3988292384 (by omega) (by decide)
  · rw [if_neg (by intro e; exact hp (by exact_mod_cast e)), if_neg hp]
theorem itr_N (a : Nat) (h : a < 4294967296) : ∀ k, itr k (a : Int) = (itN k a : Nat)
  | 0 => rfl
  | k + 1 => by simp only [itr, itN]; rw [itr_N a h k, stepI_N _ (itN_lt h k)]
theorem tbl_N (i : Nat) (h : i < 256) : aget tbl (i : Int) = (itN 8 i : Nat) := by
  simp [aget, tbl, h]
  rw [wcv_u32 i (by omega), itr_N i (by omega)]
theorem stp_N (n b : Nat) (hn : n < 4294967296) (hb : b < 256) : stp (n : Int) (b : Int) = ((itN 8 ((n ^^^ M32) ^^^ b) ^^^ M32 : Nat) : Int) := by
  have hr : n ^^^ M32 < 4294967296 := xor_lt32 hn (by decide)
  have e8 : wshr .u32 (((n ^^^ M32 : Nat)) : Int) 8 = (((n ^^^ M32) / 256 : Nat) : Int) := by have := wshr_u32 (n ^^^ M32) 8; simpa using this
  have hx : (n ^^^ M32) % 256 ^^^ b < 256 := Nat.xor_lt_two_pow (n := 8) (by omega) hb
  have hi : idx (n : Int) (b : Int) = ((((n ^^^ M32) % 256) ^^^ b : Nat) : Int) := by
    unfold idx
    rw [wnot_u32 n hn, wcv_u8, wxor_u8 _ _ (by omega) hb]
  unfold stp
  rw [hi, tbl_N _ hx, wnot_u32 n hn, e8, wxor_u32 _ _ (itN_lt (by omega) 8) (by omega), ← it8_tab, wnot_u32 _ (itN_lt (xor_lt32 hr (by omega)) 8)]
abbrev nL (l : List Int) : List Nat := l.map Int.toNat
theorem xx (a : Nat) : (a ^^^ M32) ^^^ M32 = a := by rw [Nat.xor_assoc, Nat.xor_self, Nat.xor_zero]
theorem sum_N : ∀ (l : List Int) (n : Nat), Byts l → n < 4294967296 → sumL l (n : Int) = ((rgN (nL l) (n ^^^ M32) ^^^ M32 : Nat) : Int)
  | [], n, _, hn => by simp [sumL, rgN, Nat.xor_assoc]
  | x :: l, n, h, hn => by
    obtain ⟨h0, h1⟩ := h x (by simp)
    have ex : x = ((x.toNat : Nat) : Int) := by omega
    have hs := stp_N n x.toNat hn (by omega)
    rw [← ex] at hs
    have e : sumL (x :: l) (n : Int) = sumL l (stp (n : Int) x) := rfl
    have hl : itN 8 ((n ^^^ M32) ^^^ x.toNat) < 4294967296 := itN_lt (xor_lt32 (xor_lt32 hn (by decide)) (by omega)) 8
    rw [e, hs, sum_N l _ (fun y hy => h y (by simp [hy])) (xor_lt32 hl (by decide)), xx]
    rfl
theorem nL_lt {l : List Int} (h : Byts l) : ∀ x ∈ nL l, x < 256 := by
  intro x hx
  obtain ⟨y, hy, rfl⟩ := List.mem_map.1 hx
  have := h y hy
  omega
end Go.Proofs.YtbocfphenkidnaaGreatDoor.Seg

namespace Go.Proofs.YtbocfphenkidnaaGreatDoor.Sgr
open Go Go.Px Go.Proofs Go.Proofs.YtbocfphenkidnaaGreatDoor.Cod Go.Proofs.YtbocfphenkidnaaGreatDoor.Seg
set_option maxRecDepth 100000
set_option linter.unusedVariables false

abbrev ev7 (s a k : Int) (c : ByteArray) (x y z : Int) : SV := .agg [I s, I a, I k, S c, I x, I y, I z]
abbrev cx3 (s a : Int) (ns : List (List SV)) : SV := .agg [I s, I a, SL 1 ns]
abbrev sc10 (num bs ba : Int) (bn ev : List (List SV)) (as_ aa : Int) (an : List (List SV)) (st sz : Int) : SV := .agg [I num, I bs, I ba, SL 1 bn, SL 7 ev, I as_, I aa, SL 1 an, I st, I sz]
abbrev U32 (n : Int) : SV := SV.int .u32 n
def SgT : FuncId → Sig := (fun f => bif Nat.beq f 12 then ⟨[], [.own, .pure]⟩ else bif Nat.beq f 13 then ⟨[], [.own]⟩ else bif Nat.beq f 15 then ⟨[], [.own]⟩ else bif Nat.beq f 52 then ⟨[], [.own, .pure]⟩ else bif Nat.beq f 53 then ⟨[], [.own]⟩ else bif Nat.beq f 54 then ⟨[], [.own]⟩ else bif Nat.beq f 55 then ⟨[], [.own]⟩ else bif Nat.beq f 62 then ⟨[.lend [false,false,false,false,true,false,false,false,false,false,false]], []⟩ else bif Nat.beq f 63 then ⟨[.lend [false,false,false,false,true,false,false,false,false,false,false]], []⟩ else bif Nat.beq f 71 then ⟨[], [.own]⟩ else bif Nat.beq f 74 then ⟨[], [.own]⟩ else bif Nat.beq f 110 then ⟨[], [.own]⟩ else bif Nat.beq f 115 then ⟨[], [.own]⟩ else bif Nat.beq f 118 then ⟨[], [.own]⟩ else bif Nat.beq f 127 then ⟨[.lend [false,false,false,false,true,false,false,false,false,false,false]], []⟩ else bif Nat.beq f 128 then ⟨[.lend [false,false,false,false,true,false,false,false,false,false,false]], []⟩ else bif Nat.beq f 137 then ⟨[], [.own]⟩ else bif Nat.beq f 142 then ⟨[], [.own]⟩ else bif Nat.beq f 181 then ⟨[], [.own]⟩ else bif Nat.beq f 185 then ⟨[], [.own]⟩ else {})
def SvT : TypeId → Sig := (fun f => {})

theorem rstep_nf (n : Int) (Q : List SV → Prop) (h : (((2 : Int) = 0) → False) ∧ (ifB (ieq (wrem n 2) 1) ((((2 : Int) = 0) → False) ∧ (Q [SV.int .u32 (wxor IntKind.u32 (wquo IntKind.u32 n 2) 3988292384)])) ((((2 : Int) = 0) → False) ∧ (Q [SV.int .u32 (wquo IntKind.u32 n 2)])))) : Ct Tryz.prog 204 {} [U32 n] Q :=
  fn_of (f := 204) SgT SvT (fun _ => none) Tryz.f204 Tryz.func204 (by kernel_rfl) (by kernel_rfl) h

theorem rplain_nf (rows : List (List SV)) (Q : List SV → Prop) (h : ∃ Inv : Int → Int → Prop, ∃ m : Int → Int → Nat, (Inv 4294967295 0) ∧ (∀ x : Int, ∀ x1 : Int, (Inv x x1) → ifB (ilt x1 (rlen rows)) ((((0 : Int) ≤ x1) ∧ (x1 < (rlen rows))) ∧ (∃ x2 : Int, (rget rows x1 = [U8 x2]) ∧ (∃ Inv1 : Int → Int → Prop, ∃ m1 : Int → Int → Nat, (Inv1 (wxor IntKind.u32 x (wcv IntKind.u32 x2)) 0) ∧ (∀ x3 : Int, ∀ x4 : Int, (Inv1 x3 x4) → ifB (ilt x4 8) (Cl Tryz.prog 204 sP [SV.int .u32 x3] (fun (rs : List SV) => ∃ x5 : Int, (rs = [SV.int .u32 x5]) ∧ (((Option.some [] : Option (List (List SV))) = Option.some []) ∧ ((Inv1 x5 (wadd IntKind.i64 x4 1)) ∧ (Nat.le (Nat.succ (m1 x5 (wadd IntKind.i64 x4 1))) (m1 x3 x4)))))) (((Option.some [] : Option (List (List SV))) = Option.some []) ∧ ((Inv x3 (wadd IntKind.i64 x1 1)) ∧ (Nat.le (Nat.succ (m x3 (wadd IntKind.i64 x1 1))) (m x x1)))))))) (Q [SV.int .u32 (wxor IntKind.u32 x 4294967295)]))) : Ct Tryz.prog 143 {} [SL 1 rows] Q :=
  fn_of (f := 143) SgT SvT (fun _ => none) Tryz.f143 Tryz.func143 (by kernel_rfl) (by kernel_rfl) h

theorem rtail_nf (rows : List (List SV)) (n : Int) (Q : List SV → Prop) (h : ((lsum (rlen []) (rlen rows)) ≤ ((2147483648 : Int))) ∧ (∃ Inv : (List (List SV)) → Int → Int → Prop, ∃ m : (List (List SV)) → Int → Int → Nat, (Inv (rapp [] rows) n 0) ∧ (∀ l : List (List SV), ∀ x : Int, ∀ x1 : Int, (Inv l x x1) → ifB (ilt x1 4) ((((256 : Int) = 0) → False) ∧ (((lsum (rlen l) (rlen ([[U8 (wcv IntKind.u8 (wrem x 256))]]))) ≤ ((2147483648 : Int))) ∧ ((((256 : Int) = 0) → False) ∧ (((Option.some [] : Option (List (List SV))) = Option.some []) ∧ ((Inv (rapp l ([[U8 (wcv IntKind.u8 (wrem x 256))]])) (wquo IntKind.u32 x 256) (wadd IntKind.i64 x1 1)) ∧ (Nat.le (Nat.succ (m (rapp l ([[U8 (wcv IntKind.u8 (wrem x 256))]])) (wquo IntKind.u32 x 256) (wadd IntKind.i64 x1 1))) (m l x x1))))))) (Q [SL 1 l])))) : Ct Tryz.prog 142 ⟨[], [.own]⟩ [SL 1 rows, U32 n] Q :=
  fn_of (f := 142) SgT SvT (fun _ => none) Tryz.f142 Tryz.func142 (by kernel_rfl) (by kernel_rfl) h

theorem rseal_nf (rows : List (List SV)) (Q : List SV → Prop) (h : Cl Tryz.prog 143 sP [SL 1 rows] (fun (rs : List SV) => ∃ x : Int, (rs = [SV.int .u32 x]) ∧ (Cl Tryz.prog 142 sO [SL 1 rows, SV.int .u32 x] (fun (rs1 : List SV) => ∃ l : List (List SV), (rs1 = [SL 1 l]) ∧ (Q [SL 1 l]))))) : Ct Tryz.prog 74 ⟨[], [.own]⟩ [SL 1 rows] Q :=
  fn_of (f := 74) SgT SvT (fun _ => none) Tryz.f74 Tryz.func74 (by kernel_rfl) (by kernel_rfl) h

theorem rput_nf (k : Int) (rows : List (List SV)) (Q : List SV → Prop) (h : (((256 : Int) = 0) → False) ∧ ((((256 : Int) = 0) → False) ∧ (((lsum (rlen ([[U8 (wcv IntKind.u8 (wquo IntKind.i64 (rlen rows) 256))], [U8 (wcv IntKind.u8 (wrem (rlen rows) 256))], [U8 (wcv IntKind.u8 k)]])) (rlen rows)) ≤ ((2147483648 : Int))) ∧ (Cl Tryz.prog 74 sO ([SV.slice 1 (rapp ([[U8 (wcv IntKind.u8 (wquo IntKind.i64 (rlen rows) 256))], [U8 (wcv IntKind.u8 (wrem (rlen rows) 256))], [U8 (wcv IntKind.u8 k)]]) rows) 0]) (fun (rs : List SV) => ∃ l : List (List SV), (rs = [SL 1 l]) ∧ (Q [SL 1 l])))))) : Ct Tryz.prog 55 ⟨[], [.own]⟩ [I k, SL 1 rows] Q :=
  fn_of (f := 55) SgT SvT (fun _ => none) Tryz.f55 Tryz.func55 (by kernel_rfl) (by kernel_rfl) h

theorem rnext_nf (rows : List (List SV)) (at_ : Int) (Q : List SV → Prop) (h : ifB (bpick (ilt at_ 0) true (igt at_ (rlen rows))) (Q ([SV.agg ([I 3, I ((0 : Int)), SL 1 [], I ((0 : Int))])])) (ifB (ieq (wsub IntKind.i64 (rlen rows) at_) 0) (Q ([SV.agg ([I 1, I ((0 : Int)), SL 1 [], I ((0 : Int))])])) (ifB (ilt (wsub IntKind.i64 (rlen rows) at_) 7) (Q ([SV.agg ([I 2, I ((0 : Int)), SL 1 [], I ((0 : Int))])])) ((((0 : Int) ≤ at_) ∧ (at_ < (rlen rows))) ∧ (∃ x : Int, (rget rows at_ = [U8 x]) ∧ ((((0 : Int) ≤ (wadd IntKind.i64 at_ 1)) ∧ ((wadd IntKind.i64 at_ 1) < (rlen rows))) ∧ (∃ x1 : Int, (rget rows (wadd IntKind.i64 at_ 1) = [U8 x1]) ∧ (ifB (igt (wadd IntKind.i64 (wmul IntKind.i64 256 (wcv IntKind.i64 x)) (wcv IntKind.i64 x1)) 200) (Q ([SV.agg ([I 3, I ((0 : Int)), SL 1 [], I ((0 : Int))])])) (ifB (ilt (wsub IntKind.i64 (rlen rows) at_) (wadd IntKind.i64 7 (wadd IntKind.i64 (wmul IntKind.i64 256 (wcv IntKind.i64 x)) (wcv IntKind.i64 x1)))) (Q ([SV.agg ([I 2, I ((0 : Int)), SL 1 [], I ((0 : Int))])])) ((((0 : Int) ≤ (wadd IntKind.i64 at_ 2)) ∧ ((wadd IntKind.i64 at_ 2) < (rlen rows))) ∧ (∃ x2 : Int, (rget rows (wadd IntKind.i64 at_ 2) = [U8 x2]) ∧ ((((0 : Int) ≤ (wadd IntKind.i64 at_ 3)) ∧ (((wadd IntKind.i64 at_ 3) ≤ (wadd IntKind.i64 (wadd IntKind.i64 at_ 3) (wadd IntKind.i64 (wmul IntKind.i64 256 (wcv IntKind.i64 x)) (wcv IntKind.i64 x1)))) ∧ ((wadd IntKind.i64 (wadd IntKind.i64 at_ 3) (wadd IntKind.i64 (wmul IntKind.i64 256 (wcv IntKind.i64 x)) (wcv IntKind.i64 x1))) ≤ (rlen rows)))) ∧ (ifB (bpick (ilt (wcv IntKind.i64 x2) 1) true (igt (wcv IntKind.i64 x2) 3)) (Q ([SV.agg ([I 3, I ((0 : Int)), SL 1 [], I ((0 : Int))])])) ((((0 : Int) ≤ at_) ∧ ((at_ ≤ (wadd IntKind.i64 (wadd IntKind.i64 at_ 7) (wadd IntKind.i64 (wmul IntKind.i64 256 (wcv IntKind.i64 x)) (wcv IntKind.i64 x1)))) ∧ ((wadd IntKind.i64 (wadd IntKind.i64 at_ 7) (wadd IntKind.i64 (wmul IntKind.i64 256 (wcv IntKind.i64 x)) (wcv IntKind.i64 x1))) ≤ (rlen rows)))) ∧ ((isBytes (rsub rows at_ (wadd IntKind.i64 (wadd IntKind.i64 at_ 7) (wadd IntKind.i64 (wmul IntKind.i64 256 (wcv IntKind.i64 x)) (wcv IntKind.i64 x1))))) ∧ (Cl Tryz.prog 55 sO [I (wcv IntKind.i64 x2), SV.slice 1 (rsub rows (wadd IntKind.i64 at_ 3) (wadd IntKind.i64 (wadd IntKind.i64 at_ 3) (wadd IntKind.i64 (wmul IntKind.i64 256 (wcv IntKind.i64 x)) (wcv IntKind.i64 x1)))) 0] (fun (rs : List SV) => ∃ l : List (List SV), (rs = [SL 1 l]) ∧ ((isBytes l) ∧ (ifB (sne (bstr l) (bstr (rsub rows at_ (wadd IntKind.i64 (wadd IntKind.i64 at_ 7) (wadd IntKind.i64 (wmul IntKind.i64 256 (wcv IntKind.i64 x)) (wcv IntKind.i64 x1)))))) (Q ([SV.agg ([I 3, I ((0 : Int)), SL 1 [], I ((0 : Int))])])) (Q ([SV.agg [I ((0 : Int)), I (wcv IntKind.i64 x2), SV.slice 1 (rsub rows (wadd IntKind.i64 at_ 3) (wadd IntKind.i64 (wadd IntKind.i64 at_ 3) (wadd IntKind.i64 (wmul IntKind.i64 256 (wcv IntKind.i64 x)) (wcv IntKind.i64 x1)))) 0, I (wadd IntKind.i64 7 (wadd IntKind.i64 (wmul IntKind.i64 256 (wcv IntKind.i64 x)) (wcv IntKind.i64 x1)))]]))))))))))))))))))))) : Ct Tryz.prog 64 {} [SL 1 rows, I at_] Q :=
  fn_of (f := 64) SgT SvT (fun _ => none) Tryz.f64 Tryz.func64 (by kernel_rfl) (by kernel_rfl) h

theorem rmay_nf (n : Int) (Q : List SV → Prop) (h : Q [B (bpick (ige n 1) (ile n 99999999) false)]) : Ct Tryz.prog 10 {} [I n] Q :=
  fn_of (f := 10) SgT SvT (fun _ => none) Tryz.f10 Tryz.func10 (by kernel_rfl) (by kernel_rfl) h

theorem rname_nf (n : Int) (Q : List SV → Prop) (h : ∃ Inv : ByteArray → Int → Int → Prop, ∃ m : ByteArray → Int → Int → Nat, (Inv (ByteArray.mk (Array.mk [])) n 0) ∧ (∀ s : ByteArray, ∀ x : Int, ∀ x1 : Int, (Inv s x x1) → ifB (ilt x1 8) ((((10 : Int) = 0) → False) ∧ ((isBytes ([[U8 (wadd IntKind.u8 48 (wcv IntKind.u8 (wrem x 10)))]])) ∧ (((lsum (slen (bstr ([[U8 (wadd IntKind.u8 48 (wcv IntKind.u8 (wrem x 10)))]]))) (slen s)) ≤ 9223372036854775807) ∧ ((((10 : Int) = 0) → False) ∧ (((Option.some [] : Option (List (List SV))) = Option.some []) ∧ ((Inv (scat (bstr ([[U8 (wadd IntKind.u8 48 (wcv IntKind.u8 (wrem x 10)))]])) s) (wquo IntKind.i64 x 10) (wadd IntKind.i64 x1 1)) ∧ (Nat.le (Nat.succ (m (scat (bstr ([[U8 (wadd IntKind.u8 48 (wcv IntKind.u8 (wrem x 10)))]])) s) (wquo IntKind.i64 x 10) (wadd IntKind.i64 x1 1))) (m s x x1)))))))) (((lsum (slen (ByteArray.mk (Array.mk [115, 101, 103, 46]))) (slen s)) ≤ 9223372036854775807) ∧ (Q ([S (scat (ByteArray.mk (Array.mk [115, 101, 103, 46])) s)]))))) : Ct Tryz.prog 11 {} [I n] Q :=
  fn_of (f := 11) SgT SvT (fun _ => none) Tryz.f11 Tryz.func11 (by kernel_rfl) (by kernel_rfl) h

theorem rhead_nf (num : Int) (cs ca : Int) (ns : List (List SV)) (Q : List SV → Prop) (h : Cl Tryz.prog 54 sO ([SL 1 ([[U8 102], [U8 98], [U8 120], [U8 49]]), U64 (wcv IntKind.u64 num)]) (fun (rs : List SV) => ∃ l : List (List SV), (rs = [SL 1 l]) ∧ (Cl Tryz.prog 54 sO [SL 1 l, U64 (wcv IntKind.u64 cs)] (fun (rs1 : List SV) => ∃ l1 : List (List SV), (rs1 = [SL 1 l1]) ∧ (Cl Tryz.prog 54 sO [SL 1 l1, U64 (wcv IntKind.u64 ca)] (fun (rs2 : List SV) => ∃ l2 : List (List SV), (rs2 = [SL 1 l2]) ∧ (Cl Tryz.prog 55 sO [I 1, SL 1 l2] (fun (rs3 : List SV) => ∃ l3 : List (List SV), (rs3 = [SL 1 l3]) ∧ (Q [SL 1 l3]))))))))) : Ct Tryz.prog 13 ⟨[], [.own]⟩ [I num, cx3 cs ca ns] Q :=
  fn_of (f := 13) SgT SvT (fun _ => none) Tryz.f13 Tryz.func13 (by kernel_rfl) (by kernel_rfl) h

theorem rsl_nf (many : Int) (cs ca : Int) (ns : List (List SV)) (Q : List SV → Prop) (h : Cl Tryz.prog 54 sO ([SL 1 [], U64 (wcv IntKind.u64 many)]) (fun (rs : List SV) => ∃ l : List (List SV), (rs = [SL 1 l]) ∧ (Cl Tryz.prog 54 sO [SL 1 l, U64 (wcv IntKind.u64 cs)] (fun (rs1 : List SV) => ∃ l1 : List (List SV), (rs1 = [SL 1 l1]) ∧ (Cl Tryz.prog 54 sO [SL 1 l1, U64 (wcv IntKind.u64 ca)] (fun (rs2 : List SV) => ∃ l2 : List (List SV), (rs2 = [SL 1 l2]) ∧ (Cl Tryz.prog 55 sO [I 3, SL 1 l2] (fun (rs3 : List SV) => ∃ l3 : List (List SV), (rs3 = [SL 1 l3]) ∧ (Q [SL 1 l3]))))))))) : Ct Tryz.prog 15 ⟨[], [.own]⟩ [I many, cx3 cs ca ns] Q :=
  fn_of (f := 15) SgT SvT (fun _ => none) Tryz.f15 Tryz.func15 (by kernel_rfl) (by kernel_rfl) h

theorem radd_nf (cs ca : Int) (ns : List (List SV)) (s a k : Int) (c : ByteArray) (x y z : Int) (Q : List SV → Prop) (h : Cl Tryz.prog 57 sP ([SV.agg [I cs, I ca, SL 1 ns], SV.agg [I s, I a, I k, S c, I x, I y, I z]]) (fun (rs : List SV) => ∃ l : List (List SV), ∃ x1 : Int, ∃ x2 : Int, ∃ l1 : List (List SV), ∃ x3 : Int, (rs = [SL 1 l, SV.agg [I x1, I x2, SL 1 l1], I x3]) ∧ (ifB (ine x3 0) (Q ([SL 1 [], SV.agg [I cs, I ca, SL 1 ns], I x3])) (Cl Tryz.prog 55 sO [I 2, SL 1 l] (fun (rs1 : List SV) => ∃ l2 : List (List SV), (rs1 = [SL 1 l2]) ∧ (Q ([SL 1 l2, SV.agg [I x1, I x2, SL 1 l1], I 0]))))))) : Ct Tryz.prog 17 {} [cx3 cs ca ns, ev7 s a k c x y z] Q :=
  fn_of (f := 17) SgT SvT (fun _ => none) Tryz.f17 Tryz.func17 (by kernel_rfl) (by kernel_rfl) h

theorem rhd_nf (rows : List (List SV)) (Q : List SV → Prop) (h : ifB (ilt (rlen rows) 4) (Q ([I 0, SV.agg ([I ((0 : Int)), I ((0 : Int)), SL 1 []])])) (∃ Inv : Int → (List (List SV)) → Int → Int → Int → Int → Int → Prop, ∃ m : Int → (List (List SV)) → Int → Int → Int → Int → Int → Nat, (Inv 0 rows 4 ((0 : Int)) ((0 : Int)) ((0 : Int)) ((0 : Int))) ∧ (∀ x : Int, ∀ l : List (List SV), ∀ x1 : Int, ∀ x2 : Int, ∀ x3 : Int, ∀ x4 : Int, ∀ x5 : Int, (Inv x l x1 x2 x3 x4 x5) → ifB (ilt x 3) (Cl Tryz.prog 130 sP ([SV.agg [SL 1 l, I x1, I x2]]) (fun (rs : List SV) => ∃ l1 : List (List SV), ∃ x6 : Int, ∃ x7 : Int, ∃ x8 : Int, (rs = [SV.agg [SL 1 l1, I x6, I x7], U64 x8]) ∧ ((((0 : Int) ≤ x) ∧ (x < ((3 : Int)))) ∧ (((x = (0 : Int)) → (Option.some ([[I ((0 : Int)), I ((0 : Int)), SV.slice 1 [] 1]]) = Option.some ([[I ((0 : Int)), I ((0 : Int)), SV.slice 1 [] 1]])) ∧ ((Inv (wadd IntKind.i64 x 1) l1 x6 x7 x8 x4 x5) ∧ (Nat.le (Nat.succ (m (wadd IntKind.i64 x 1) l1 x6 x7 x8 x4 x5)) (m x l x1 x2 x3 x4 x5)))) ∧ (((x = (1 : Int)) → (Option.some ([[I ((0 : Int)), I ((0 : Int)), SV.slice 1 [] 1]]) = Option.some ([[I ((0 : Int)), I ((0 : Int)), SV.slice 1 [] 1]])) ∧ ((Inv (wadd IntKind.i64 x 1) l1 x6 x7 x3 x8 x5) ∧ (Nat.le (Nat.succ (m (wadd IntKind.i64 x 1) l1 x6 x7 x3 x8 x5)) (m x l x1 x2 x3 x4 x5)))) ∧ (((x = (2 : Int)) → (Option.some ([[I ((0 : Int)), I ((0 : Int)), SV.slice 1 [] 1]]) = Option.some ([[I ((0 : Int)), I ((0 : Int)), SV.slice 1 [] 1]])) ∧ ((Inv (wadd IntKind.i64 x 1) l1 x6 x7 x3 x4 x8) ∧ (Nat.le (Nat.succ (m (wadd IntKind.i64 x 1) l1 x6 x7 x3 x4 x8)) (m x l x1 x2 x3 x4 x5)))) ∧ True)))))) (∃ Inv1 : Bool → Prop, ∃ m1 : Bool → Nat, (ifB (ine x2 0) ((Option.some ([[I ((0 : Int)), I ((0 : Int)), SV.slice 1 [] 1], [SL 1 l, I x1, I x2], [U64 x3, U64 x4, U64 x5], [I (wcv IntKind.i64 x4), I (wcv IntKind.i64 x5), SV.slice 1 [] 1]]) = Option.some ([[I ((0 : Int)), I ((0 : Int)), SV.slice 1 [] 1], [SL 1 l, I x1, I x2], [U64 x3, U64 x4, U64 x5], [I (wcv IntKind.i64 x4), I (wcv IntKind.i64 x5), SV.slice 1 [] 1]])) ∧ (Inv1 true)) (ifB (igt x3 99999999) ((Option.some ([[I ((0 : Int)), I ((0 : Int)), SV.slice 1 [] 1], [SL 1 l, I x1, I x2], [U64 x3, U64 x4, U64 x5], [I (wcv IntKind.i64 x4), I (wcv IntKind.i64 x5), SV.slice 1 [] 1]]) = Option.some ([[I ((0 : Int)), I ((0 : Int)), SV.slice 1 [] 1], [SL 1 l, I x1, I x2], [U64 x3, U64 x4, U64 x5], [I (wcv IntKind.i64 x4), I (wcv IntKind.i64 x5), SV.slice 1 [] 1]])) ∧ (Inv1 true)) (Cl Tryz.prog 10 sP [I (wcv IntKind.i64 x3)] (fun (rs : List SV) => ∃ b : Bool, (rs = [B b]) ∧ (ifB (bnot b) ((Option.some ([[I ((0 : Int)), I ((0 : Int)), SV.slice 1 [] 1], [SL 1 l, I x1, I x2], [U64 x3, U64 x4, U64 x5], [I (wcv IntKind.i64 x4), I (wcv IntKind.i64 x5), SV.slice 1 [] 1]]) = Option.some ([[I ((0 : Int)), I ((0 : Int)), SV.slice 1 [] 1], [SL 1 l, I x1, I x2], [U64 x3, U64 x4, U64 x5], [I (wcv IntKind.i64 x4), I (wcv IntKind.i64 x5), SV.slice 1 [] 1]])) ∧ (Inv1 true)) (ifB (igt x4 4294967296) ((Option.some ([[I ((0 : Int)), I ((0 : Int)), SV.slice 1 [] 1], [SL 1 l, I x1, I x2], [U64 x3, U64 x4, U64 x5], [I (wcv IntKind.i64 x4), I (wcv IntKind.i64 x5), SV.slice 1 [] 1]]) = Option.some ([[I ((0 : Int)), I ((0 : Int)), SV.slice 1 [] 1], [SL 1 l, I x1, I x2], [U64 x3, U64 x4, U64 x5], [I (wcv IntKind.i64 x4), I (wcv IntKind.i64 x5), SV.slice 1 [] 1]])) ∧ (Inv1 true)) (ifB (igt x5 1099511627776) ((Option.some ([[I ((0 : Int)), I ((0 : Int)), SV.slice 1 [] 1], [SL 1 l, I x1, I x2], [U64 x3, U64 x4, U64 x5], [I (wcv IntKind.i64 x4), I (wcv IntKind.i64 x5), SV.slice 1 [] 1]]) = Option.some ([[I ((0 : Int)), I ((0 : Int)), SV.slice 1 [] 1], [SL 1 l, I x1, I x2], [U64 x3, U64 x4, U64 x5], [I (wcv IntKind.i64 x4), I (wcv IntKind.i64 x5), SV.slice 1 [] 1]])) ∧ (Inv1 true)) (Cl Tryz.prog 13 sO ([I (wcv IntKind.i64 x3), SV.agg ([I (wcv IntKind.i64 x4), I (wcv IntKind.i64 x5), SL 1 []])]) (fun (rs1 : List SV) => ∃ l1 : List (List SV), (rs1 = [SL 1 l1]) ∧ ((isBytes l1) ∧ (Cl Tryz.prog 55 sO [I 1, SL 1 rows] (fun (rs2 : List SV) => ∃ l2 : List (List SV), (rs2 = [SL 1 l2]) ∧ ((isBytes l2) ∧ ((Option.some ([[I ((0 : Int)), I ((0 : Int)), SV.slice 1 [] 1], [SL 1 l, I x1, I x2], [U64 x3, U64 x4, U64 x5], [I (wcv IntKind.i64 x4), I (wcv IntKind.i64 x5), SV.slice 1 [] 1]]) = Option.some ([[I ((0 : Int)), I ((0 : Int)), SV.slice 1 [] 1], [SL 1 l, I x1, I x2], [U64 x3, U64 x4, U64 x5], [I (wcv IntKind.i64 x4), I (wcv IntKind.i64 x5), SV.slice 1 [] 1]])) ∧ (Inv1 (sne (bstr l1) (bstr l2))))))))))))))))) ∧ (∀ b : Bool, (Inv1 b) → ifB b (Q ([I 0, SV.agg ([I ((0 : Int)), I ((0 : Int)), SL 1 []])])) (Q ([I (wcv IntKind.i64 x3), SV.agg ([I (wcv IntKind.i64 x4), I (wcv IntKind.i64 x5), SL 1 []])]))))))) : Ct Tryz.prog 65 {} [SL 1 rows] Q :=
  fn_of (f := 65) SgT SvT (fun k => bif Nat.beq k 14 then some { slots := [(6,false,[.int .i64])], boxes := [(512,[.sl 1,.int .i64,.int .i64]),(640,[.int .u64,.int .u64,.int .u64])], fixed := [384] } else bif Nat.beq k 1000010 then some { slots := [(68,false,[.bool])], fixed := [384, 512, 640, 896] } else none) Tryz.f65 Tryz.func65 (by kernel_rfl) (by kernel_rfl) h

theorem rread_nf (rows : List (List SV)) (Q : List SV → Prop) (h : ∃ Inv : Bool → Int → Int → Int → (List (List SV)) → (List (List SV)) → Int → Int → (List (List SV)) → Int → Int → Prop, ∃ m : Bool → Int → Int → Int → (List (List SV)) → (List (List SV)) → Int → Int → (List (List SV)) → Int → Int → Nat, (Inv false ((0 : Int)) ((0 : Int)) ((0 : Int)) [] [] ((0 : Int)) ((0 : Int)) [] ((0 : Int)) ((0 : Int))) ∧ (∀ b : Bool, ∀ x : Int, ∀ x1 : Int, ∀ x2 : Int, ∀ l : List (List SV), ∀ l1 : List (List SV), ∀ x3 : Int, ∀ x4 : Int, ∀ l2 : List (List SV), ∀ x5 : Int, ∀ x6 : Int, (Inv b x x1 x2 l l1 x3 x4 l2 x5 x6) → Cl Tryz.prog 64 sP [SL 1 rows, I x6] (fun (rs : List SV) => ∃ x7 : Int, ∃ x8 : Int, ∃ l3 : List (List SV), ∃ x9 : Int, (rs = [SV.agg [I x7, I x8, SL 1 l3, I x9]]) ∧ (ifB (bpick (ieq x7 0) (bnot b) false) (ifB (bpick (ieq x 0) (ieq x8 1) false) (Cl Tryz.prog 65 sP [SL 1 l3] (fun (rs1 : List SV) => ∃ x10 : Int, ∃ x11 : Int, ∃ x12 : Int, ∃ l4 : List (List SV), (rs1 = [I x10, SV.agg [I x11, I x12, SL 1 l4]]) ∧ (ifB (igt x10 0) ((Option.some ([[I ((0 : Int)), I ((0 : Int)), I ((0 : Int)), SV.slice 1 [] 1, SV.slice 7 [] 1, I ((0 : Int)), I ((0 : Int)), SV.slice 1 [] 1, I ((0 : Int)), I ((0 : Int))]]) = Option.some ([[I ((0 : Int)), I ((0 : Int)), I ((0 : Int)), SV.slice 1 [] 1, SV.slice 7 [] 1, I ((0 : Int)), I ((0 : Int)), SV.slice 1 [] 1, I ((0 : Int)), I ((0 : Int))]])) ∧ ((Inv b x10 x11 x12 l4 [] x11 x12 l4 ((0 : Int)) x9) ∧ (Nat.le (Nat.succ (m b x10 x11 x12 l4 [] x11 x12 l4 ((0 : Int)) x9)) (m b x x1 x2 l l1 x3 x4 l2 x5 x6)))) (ifB (bpick (ieq x7 1) b false) (ifB (bpick (bnot b) (bpick (ieq x7 1) true (ieq x7 2)) false) (Q ([SV.agg [I x, I x1, I x2, SL 1 l, SL 7 l1, I x3, I x4, SL 1 l2, I x7, I x6]])) (Q ([SV.agg [I x, I x1, I x2, SL 1 l, SL 7 l1, I x3, I x4, SL 1 l2, I 4, I x6]]))) (ifB (bpick (bnot b) (bpick (ieq x7 1) true (ieq x7 2)) false) (Q ([SV.agg [I x, I x1, I x2, SL 1 l, SL 7 l1, I x3, I x4, SL 1 l2, I x7, I x6]])) (Q ([SV.agg [I x, I x1, I x2, SL 1 l, SL 7 l1, I x3, I x4, SL 1 l2, I 3, I x6]]))))))) (ifB (bpick (igt x 0) (ieq x8 2) false) (Cl Tryz.prog 66 sP ([SV.agg [I x3, I x4, SL 1 l2], SL 1 l3]) (fun (rs1 : List SV) => ∃ x10 : Int, ∃ x11 : Int, ∃ x12 : Int, ∃ s : ByteArray, ∃ x13 : Int, ∃ x14 : Int, ∃ x15 : Int, ∃ x16 : Int, ∃ x17 : Int, ∃ l4 : List (List SV), ∃ x18 : Int, (rs1 = [SV.agg [I x10, I x11, I x12, S s, I x13, I x14, I x15], SV.agg [I x16, I x17, SL 1 l4], I x18]) ∧ (ifB (ieq x18 0) (((lsum (rlen l1) (rlen ([[I x10, I x11, I x12, S s, I x13, I x14, I x15]]))) ≤ ((2147483648 : Int))) ∧ ((Option.some ([[I ((0 : Int)), I ((0 : Int)), I ((0 : Int)), SV.slice 1 [] 1, SV.slice 7 [] 1, I ((0 : Int)), I ((0 : Int)), SV.slice 1 [] 1, I ((0 : Int)), I ((0 : Int))]]) = Option.some ([[I ((0 : Int)), I ((0 : Int)), I ((0 : Int)), SV.slice 1 [] 1, SV.slice 7 [] 1, I ((0 : Int)), I ((0 : Int)), SV.slice 1 [] 1, I ((0 : Int)), I ((0 : Int))]])) ∧ ((Inv b x x1 x2 l (rapp l1 ([[I x10, I x11, I x12, S s, I x13, I x14, I x15]])) x16 x17 l4 x5 (wadd IntKind.i64 x6 x9)) ∧ (Nat.le (Nat.succ (m b x x1 x2 l (rapp l1 ([[I x10, I x11, I x12, S s, I x13, I x14, I x15]])) x16 x17 l4 x5 (wadd IntKind.i64 x6 x9))) (m b x x1 x2 l l1 x3 x4 l2 x5 x6))))) (ifB (bpick (ieq x7 1) b false) (ifB (bpick (bnot b) (bpick (ieq x7 1) true (ieq x7 2)) false) (Q ([SV.agg [I x, I x1, I x2, SL 1 l, SL 7 l1, I x3, I x4, SL 1 l2, I x7, I x6]])) (Q ([SV.agg [I x, I x1, I x2, SL 1 l, SL 7 l1, I x3, I x4, SL 1 l2, I 4, I x6]]))) (ifB (bpick (bnot b) (bpick (ieq x7 1) true (ieq x7 2)) false) (Q ([SV.agg [I x, I x1, I x2, SL 1 l, SL 7 l1, I x3, I x4, SL 1 l2, I x7, I x6]])) (Q ([SV.agg [I x, I x1, I x2, SL 1 l, SL 7 l1, I x3, I x4, SL 1 l2, I 3, I x6]]))))))) (ifB (bpick (igt x 0) (ieq x8 3) false) ((((0 : Int) ≤ x6) ∧ ((x6 ≤ (wadd IntKind.i64 x6 x9)) ∧ ((wadd IntKind.i64 x6 x9) ≤ (rlen rows)))) ∧ ((isBytes (rsub rows x6 (wadd IntKind.i64 x6 x9))) ∧ (Cl Tryz.prog 15 sO ([I (rlen l1), SV.agg [I x3, I x4, SL 1 l2]]) (fun (rs1 : List SV) => ∃ l4 : List (List SV), (rs1 = [SL 1 l4]) ∧ ((isBytes l4) ∧ (ifB (seq (bstr l4) (bstr (rsub rows x6 (wadd IntKind.i64 x6 x9)))) ((Option.some ([[I ((0 : Int)), I ((0 : Int)), I ((0 : Int)), SV.slice 1 [] 1, SV.slice 7 [] 1, I ((0 : Int)), I ((0 : Int)), SV.slice 1 [] 1, I ((0 : Int)), I ((0 : Int))]]) = Option.some ([[I ((0 : Int)), I ((0 : Int)), I ((0 : Int)), SV.slice 1 [] 1, SV.slice 7 [] 1, I ((0 : Int)), I ((0 : Int)), SV.slice 1 [] 1, I ((0 : Int)), I ((0 : Int))]])) ∧ ((Inv true x x1 x2 l l1 x3 x4 l2 x5 (wadd IntKind.i64 x6 x9)) ∧ (Nat.le (Nat.succ (m true x x1 x2 l l1 x3 x4 l2 x5 (wadd IntKind.i64 x6 x9))) (m b x x1 x2 l l1 x3 x4 l2 x5 x6)))) (ifB (bpick (ieq x7 1) b false) (ifB (bpick (bnot b) (bpick (ieq x7 1) true (ieq x7 2)) false) (Q ([SV.agg [I x, I x1, I x2, SL 1 l, SL 7 l1, I x3, I x4, SL 1 l2, I x7, I x6]])) (Q ([SV.agg [I x, I x1, I x2, SL 1 l, SL 7 l1, I x3, I x4, SL 1 l2, I 4, I x6]]))) (ifB (bpick (bnot b) (bpick (ieq x7 1) true (ieq x7 2)) false) (Q ([SV.agg [I x, I x1, I x2, SL 1 l, SL 7 l1, I x3, I x4, SL 1 l2, I x7, I x6]])) (Q ([SV.agg [I x, I x1, I x2, SL 1 l, SL 7 l1, I x3, I x4, SL 1 l2, I 3, I x6]])))))))))) (ifB (bpick (ieq x7 1) b false) (ifB (bpick (bnot b) (bpick (ieq x7 1) true (ieq x7 2)) false) (Q ([SV.agg [I x, I x1, I x2, SL 1 l, SL 7 l1, I x3, I x4, SL 1 l2, I x7, I x6]])) (Q ([SV.agg [I x, I x1, I x2, SL 1 l, SL 7 l1, I x3, I x4, SL 1 l2, I 4, I x6]]))) (ifB (bpick (bnot b) (bpick (ieq x7 1) true (ieq x7 2)) false) (Q ([SV.agg [I x, I x1, I x2, SL 1 l, SL 7 l1, I x3, I x4, SL 1 l2, I x7, I x6]])) (Q ([SV.agg [I x, I x1, I x2, SL 1 l, SL 7 l1, I x3, I x4, SL 1 l2, I 3, I x6]]))))))) (ifB (bpick (ieq x7 1) b false) (ifB (bpick (bnot b) (bpick (ieq x7 1) true (ieq x7 2)) false) (Q ([SV.agg [I x, I x1, I x2, SL 1 l, SL 7 l1, I x3, I x4, SL 1 l2, I x7, I x6]])) (Q ([SV.agg [I x, I x1, I x2, SL 1 l, SL 7 l1, I x3, I x4, SL 1 l2, I 4, I x6]]))) (ifB (bpick (bnot b) (bpick (ieq x7 1) true (ieq x7 2)) false) (Q ([SV.agg [I x, I x1, I x2, SL 1 l, SL 7 l1, I x3, I x4, SL 1 l2, I x7, I x6]])) (Q ([SV.agg [I x, I x1, I x2, SL 1 l, SL 7 l1, I x3, I x4, SL 1 l2, I 3, I x6]])))))))) : Ct Tryz.prog 24 {} [SL 1 rows] Q :=
  fn_of (f := 24) SgT SvT (fun k => bif Nat.beq k 11 then some { slots := [(4,false,[.bool])], boxes := [(384,[.int .i64,.int .i64,.int .i64,.sl 1,.own 7,.int .i64,.int .i64,.sl 1,.int .i64,.int .i64])], fixed := [256] } else none) Tryz.f24 Tryz.func24 (by kernel_rfl) (by kernel_rfl) h

theorem rmake_nf (num : Int) (cs ca : Int) (ns : List (List SV)) (rows : List (List SV)) (sealed : Bool) (Q : List SV → Prop) (h : Cl Tryz.prog 10 sP [I num] (fun (rs : List SV) => ∃ b : Bool, (rs = [B b]) ∧ (ifB (bnot b) (Q ([SL 1 [], I 1])) (Cl Tryz.prog 9 sP ([SV.agg [I cs, I ca, SL 1 ns]]) (fun (rs1 : List SV) => ∃ b1 : Bool, (rs1 = [B b1]) ∧ (ifB (bpick (bnot b1) true (igt (rlen ns) 0)) (Q ([SL 1 [], I 1])) (Cl Tryz.prog 13 sO ([I num, SV.agg [I cs, I ca, SL 1 ns]]) (fun (rs2 : List SV) => ∃ l : List (List SV), (rs2 = [SL 1 l]) ∧ (∃ Inv : (List (List SV)) → Int → Int → Int → (List (List SV)) → Prop, ∃ m : (List (List SV)) → Int → Int → Int → (List (List SV)) → Nat, (Inv l 0 cs ca ns) ∧ (∀ l1 : List (List SV), ∀ x : Int, ∀ x1 : Int, ∀ x2 : Int, ∀ l2 : List (List SV), (Inv l1 x x1 x2 l2) → ifB (ilt x (rlen rows)) ((((0 : Int) ≤ x) ∧ (x < (rlen rows))) ∧ (∃ x3 : Int, ∃ x4 : Int, ∃ x5 : Int, ∃ s : ByteArray, ∃ x6 : Int, ∃ x7 : Int, ∃ x8 : Int, (rget rows x = [I x3, I x4, I x5, S s, I x6, I x7, I x8]) ∧ ((Cl Tryz.prog 17 sP ([SV.agg [I x1, I x2, SL 1 l2], SV.agg [I x3, I x4, I x5, S s, I x6, I x7, I x8]]) (fun (rs3 : List SV) => ∃ l3 : List (List SV), ∃ x9 : Int, ∃ x10 : Int, ∃ l4 : List (List SV), ∃ x11 : Int, (rs3 = [SL 1 l3, SV.agg [I x9, I x10, SL 1 l4], I x11]) ∧ (ifB (ine x11 0) (Q ([SL 1 [], I x11])) (((lsum (rlen l1) (rlen l3)) ≤ ((2147483648 : Int))) ∧ ((Option.some ([[I cs, I ca, SL 1 ns]]) = Option.some ([[I cs, I ca, SL 1 ns]])) ∧ ((Inv (rapp l1 l3) (wadd IntKind.i64 x 1) x9 x10 l4) ∧ (Nat.le (Nat.succ (m (rapp l1 l3) (wadd IntKind.i64 x 1) x9 x10 l4)) (m l1 x x1 x2 l2)))))))) ∧ (Cl Tryz.prog 17 sP ([SV.agg [I x1, I x2, SL 1 l2], SV.agg [I x3, I x4, I x5, S s, I x6, I x7, I x8]]) (fun (rs3 : List SV) => ∃ l3 : List (List SV), ∃ x9 : Int, ∃ x10 : Int, ∃ l4 : List (List SV), ∃ x11 : Int, (rs3 = [SL 1 l3, SV.agg [I x9, I x10, SL 1 l4], I x11]) ∧ (ifB (ine x11 0) (Q ([SL 1 [], I x11])) (((lsum (rlen l1) (rlen l3)) ≤ ((2147483648 : Int))) ∧ ((Option.some ([[I cs, I ca, SL 1 ns]]) = Option.some ([[I cs, I ca, SL 1 ns]])) ∧ ((Inv (rapp l1 l3) (wadd IntKind.i64 x 1) x9 x10 l4) ∧ (Nat.le (Nat.succ (m (rapp l1 l3) (wadd IntKind.i64 x 1) x9 x10 l4)) (m l1 x x1 x2 l2))))))))))) (ifB sealed (Cl Tryz.prog 15 sO ([I (rlen rows), SV.agg [I x1, I x2, SL 1 l2]]) (fun (rs3 : List SV) => ∃ l3 : List (List SV), (rs3 = [SL 1 l3]) ∧ (((lsum (rlen l1) (rlen l3)) ≤ ((2147483648 : Int))) ∧ (Q [SL 1 (rapp l1 l3), I 0])))) (Q [SL 1 l1, I 0])))))))))))) : Ct Tryz.prog 20 {} [I num, cx3 cs ca ns, SL 7 rows, B sealed] Q :=
  fn_of (f := 20) SgT SvT (fun k => bif Nat.beq k 34 then some { slots := [(10,false,[.own 1]),(12,false,[.int .i64])], boxes := [(1408,[.int .i64,.int .i64,.sl 1])], fixed := [640] } else none) Tryz.f20 Tryz.func20 (by kernel_rfl) (by kernel_rfl) h

theorem rsame_nf (num bs ba : Int) (bn ev : List (List SV)) (as_ aa : Int) (an : List (List SV)) (st sz : Int) (num2 bs2 ba2 : Int) (bn2 ev2 : List (List SV)) (as_2 aa2 : Int) (an2 : List (List SV)) (st2 sz2 : Int) (Q : List SV → Prop) (h : ifB (bpick (bpick (ieq num num2) (ieq st st2) false) (ieq sz sz2) false) (Cl Tryz.prog 18 sP ([SV.agg [I bs, I ba, SL 1 bn], SV.agg [I bs2, I ba2, SL 1 bn2]]) (fun (rs : List SV) => ∃ b : Bool, (rs = [B b]) ∧ (ifB b (Cl Tryz.prog 18 sP ([SV.agg [I as_, I aa, SL 1 an], SV.agg [I as_2, I aa2, SL 1 an2]]) (fun (rs1 : List SV) => ∃ b1 : Bool, (rs1 = [B b1]) ∧ (ifB b1 (Cl Tryz.prog 47 sP [SL 7 ev, SL 7 ev2] (fun (rs2 : List SV) => ∃ b2 : Bool, (rs2 = [B b2]) ∧ (Q [B b2]))) (Q [B false])))) (Q [B false])))) (Q [B false])) : Ct Tryz.prog 22 {} [sc10 num bs ba bn ev as_ aa an st sz, sc10 num2 bs2 ba2 bn2 ev2 as_2 aa2 an2 st2 sz2] Q :=
  fn_of (f := 22) SgT SvT (fun _ => none) Tryz.f22 Tryz.func22 (by kernel_rfl) (by kernel_rfl) h

theorem sname_nf (n : Int) (Q : List SV → Prop) (h : Cl Tryz.prog 50 sP [I n] (fun (rs : List SV) => ∃ b : Bool, (rs = [B b]) ∧ (ifB (bnot b) (Q ([S (ByteArray.mk (Array.mk []))])) (Cl Tryz.prog 59 sP [I n, I 10] (fun (rs1 : List SV) => ∃ s : ByteArray, (rs1 = [S s]) ∧ (Cl Tryz.prog 60 sP ([S (ByteArray.mk (Array.mk [48])), I (wsub IntKind.i64 8 (slen s))]) (fun (rs2 : List SV) => ∃ s1 : ByteArray, (rs2 = [S s1]) ∧ (((lsum (slen (ByteArray.mk (Array.mk [115, 101, 103, 46]))) (slen s1)) ≤ 9223372036854775807) ∧ (((lsum (slen (scat (ByteArray.mk (Array.mk [115, 101, 103, 46])) s1)) (slen s)) ≤ 9223372036854775807) ∧ (Q ([S (scat (scat (ByteArray.mk (Array.mk [115, 101, 103, 46])) s1) s)]))))))))))) : Ct Tryz.prog 21 {} [I n] Q :=
  fn_of (f := 21) SgT SvT (fun _ => none) Tryz.f21 Tryz.func21 (by kernel_rfl) (by kernel_rfl) h

end Go.Proofs.YtbocfphenkidnaaGreatDoor.Sgr

namespace Go.Proofs.YtbocfphenkidnaaGreatDoor.Sgr
open Go Go.Px Go.Proofs Go.Proofs.YtbocfphenkidnaaGreatDoor.Cod Go.Proofs.YtbocfphenkidnaaGreatDoor.Seg
set_option maxRecDepth 100000
set_option linter.unusedVariables false

theorem wquo_u32 (a k : Nat) (h : a < 4294967296) (hk : 0 < k) : wquo .u32 (a : Int) (k : Int) = ((a / k : Nat) : Int) := by
  unfold wquo
  have hle : a / k ≤ a := Nat.div_le_self _ _
  rw [Int.tdiv_eq_ediv_of_nonneg (by omega)]
  have e : (a : Int) / (k : Int) = ((a / k : Nat) : Int) := by push_cast; rfl
  rw [e]
  exact wcv_u32 _ (by omega)

theorem rstep_fn (n : Nat) (h : n < 4294967296) : Ct Tryz.prog 204 {} [U32 (n : Int)] (fun r => r = [U32 ((stN n : Nat) : Int)]) := by
  have e2 : wrem (n : Int) 2 = ((n % 2 : Nat) : Int) := by
    unfold wrem
    rw [Int.tmod_eq_emod_of_nonneg (by omega)]; omega
  have e1 : wquo .u32 (n : Int) 2 = ((n / 2 : Nat) : Int) := wquo_u32 n 2 h (by omega)
  refine rstep_nf _ _ ⟨by omega, ?_⟩
  rw [e1, e2]
  refine ifB_intro (fun hp => ⟨by omega, ?_⟩) (fun hp => ⟨by omega, ?_⟩)
  · simp at hp
    have : n % 2 = 1 := by omega
    have hx := wxor_u32 (n / 2) 3988292384 (by omega) (by decide)
    have hx' : wxor .u32 ((n / 2 : Nat) : Int) 3988292384 = (((n / 2) ^^^ 3988292384 : Nat) : Int) := hx
    rw [hx']
    simp [stN, this]
  · simp at hp
    have : ¬ n % 2 = 1 := by omega
    simp [stN, this]

theorem rplain_fn (l : List Int) (hb : Byts l) (hl : l.length ≤ 1000000) : Ct Tryz.prog 143 {} [SL 1 (bR l)] (fun r => r = [U32 (sumL l 0)]) := by
  have hrl : rlen (bR l) = l.length := by simp [rlen]
  refine rplain_nf _ _ ⟨fun x x1 => 0 ≤ x1 ∧ x1 ≤ l.length ∧ x = ((rgN (nL (l.take x1.toNat)) M32 : Nat) : Int), fun _ x1 => (l.length - x1).toNat, ⟨by omega, by omega, by simp [rgN]⟩, ?_⟩
  rintro _ x1 ⟨i0, i1, rfl⟩
  have hbt : Byts (l.take x1.toNat) := hb.sub fun x hx => List.mem_of_mem_take hx
  have hr := rgN_lt (r := M32) (nL_lt hbt) (by decide)
  rw [hrl]
  refine ifB_intro (fun h => ?_) (fun h => ?_)
  · simp at h
    have hlt : x1.toNat < l.length := by omega
    have w : wadd IntKind.i64 x1 1 = x1 + 1 := wadd_i64 (by omega) (by omega)
    have hby := hb l[x1.toNat] (List.getElem_mem hlt)
    have eb : l[x1.toNat] = ((l[x1.toNat].toNat : Nat) : Int) := by omega
    have hg : rget (bR l) x1 = [U8 ((l[x1.toNat].toNat : Nat) : Int)] := by rw [← eb]; simp [rget, hlt]
    generalize hbv : l[x1.toNat].toNat = b at *
    have hb8 : b < 256 := by omega
    refine ⟨⟨i0, h⟩, (b : Int), hg, ?_⟩
    rw [wcv_u32 b (by omega), wxor_u32 _ b hr (by omega), w]
    have hrx := xor_lt32 hr (show b < 4294967296 by omega)
    refine ⟨fun x3 x4 => 0 ≤ x4 ∧ x4 ≤ 8 ∧ x3 = ((itN x4.toNat (rgN (nL (l.take x1.toNat)) M32 ^^^ b) : Nat) : Int), fun _ x4 => (8 - x4).toNat, ⟨by omega, by omega, rfl⟩, ?_⟩
    rintro _ x4 ⟨j0, j1, rfl⟩
    refine ifB_intro (fun h => ?_) (fun h => ?_)
    · simp at h
      have w4 : wadd IntKind.i64 x4 1 = x4 + 1 := wadd_i64 (by omega) (by omega)
      refine Cl.of (rstep_fn _ (itN_lt hrx _)) ⟨_, rfl, ?_⟩
      rw [w4]
      refine ⟨rfl, ⟨by omega, by omega, ?_⟩, mlt (by dsimp only; omega)⟩
      rw [show (x4 + 1).toNat = x4.toNat + 1 by omega]; rfl
    · simp at h
      refine ⟨rfl, ⟨by omega, by omega, ?_⟩, mlt (by dsimp only; omega)⟩
      have e8 : x4.toNat = 8 := by omega
      rw [e8, show (x1 + 1).toNat = x1.toNat + 1 by omega, List.take_succ_eq_append_getElem hlt]
      have hap : nL (l.take x1.toNat ++ [l[x1.toNat]]) = nL (l.take x1.toNat) ++ [b] := by
        rw [nL, List.map_append]; simp only [List.map_cons, List.map_nil, hbv]
      rw [hap, rgN_app]
      rfl
  · simp at h
    have ht : l.take x1.toNat = l := List.take_of_length_le (by omega)
    rw [ht] at hr ⊢
    have hx := wxor_u32 (rgN (nL l) M32) 4294967295 hr (by decide)
    have hx' : wxor .u32 ((rgN (nL l) M32 : Nat) : Int) 4294967295 = ((rgN (nL l) M32 ^^^ 4294967295 : Nat) : Int) := hx
    have hs := sum_N l 0 hb (by decide)
    rw [Nat.zero_xor] at hs
    have hs' : sumL l 0 = ((rgN (nL l) M32 ^^^ M32 : Nat) : Int) := hs
    rw [hx', hs']

theorem sum_nat {l : List Int} (hb : Byts l) : ∃ n : Nat, sumL l 0 = (n : Int) ∧ n < 4294967296 := by
  have hs := sum_N l 0 hb (by decide)
  rw [Nat.zero_xor] at hs
  exact ⟨_, hs, xor_lt32 (rgN_lt (nL_lt hb) (by decide)) (by decide)⟩

theorem s4_nat (v : Nat) : s4 (v : Int) = [((v % 256 : Nat) : Int), ((v / 256 % 256 : Nat) : Int), ((v / 65536 % 256 : Nat) : Int), ((v / 16777216 % 256 : Nat) : Int)] := by
  have a0 := wshr_u32 v 0
  have a1 := wshr_u32 v 8
  have a2 := wshr_u32 v 16
  have a3 := wshr_u32 v 24
  simp at a0 a1 a2 a3
  have b0 : wshr .u32 (v : Int) 0 = ((v : Nat) : Int) := a0
  have b1 : wshr .u32 (v : Int) 8 = ((v / 256 : Nat) : Int) := by rw [a1]; rfl
  have b2 : wshr .u32 (v : Int) 16 = ((v / 65536 : Nat) : Int) := by rw [a2]; rfl
  have b3 : wshr .u32 (v : Int) 24 = ((v / 16777216 : Nat) : Int) := by rw [a3]; rfl
  simp only [s4]
  rw [b0, b1, b2, b3, wcv_u8, wcv_u8, wcv_u8, wcv_u8]

theorem rtail_fn (l : List Int) (n : Nat) (hn : n < 4294967296) (hl : l.length ≤ 1000000) : Ct Tryz.prog 142 ⟨[], [.own]⟩ [SL 1 (bR l), U32 (n : Int)] (fun r => r = [SL 1 (bR (l ++ s4 n))]) := by
  have hrl : rlen (bR l) = l.length := by simp [rlen]
  refine rtail_nf _ _ _ ⟨by simp [lsum, rlen]; omega, fun q x x1 => 0 ≤ x1 ∧ x1 ≤ 4 ∧ x = ((n / 256 ^ x1.toNat : Nat) : Int) ∧ q = bR (l ++ (s4 n).take x1.toNat), fun _ _ x1 => (4 - x1).toNat, ⟨by omega, by omega, by simp, by simp [rapp]⟩, ?_⟩
  rintro _ _ x1 ⟨i0, i1, rfl, rfl⟩
  refine ifB_intro (fun h => ?_) (fun h => ?_)
  · simp at h
    have hle : n / 256 ^ x1.toNat ≤ n := Nat.div_le_self _ _
    have w : wadd IntKind.i64 x1 1 = x1 + 1 := wadd_i64 (by omega) (by omega)
    have e2 : wrem ((n / 256 ^ x1.toNat : Nat) : Int) 256 = ((n / 256 ^ x1.toNat % 256 : Nat) : Int) := by
      generalize n / 256 ^ x1.toNat = z
      unfold wrem
      rw [Int.tmod_eq_emod_of_nonneg (by omega)]; omega
    have e1 : wquo .u32 ((n / 256 ^ x1.toNat : Nat) : Int) 256 = ((n / 256 ^ x1.toNat / 256 : Nat) : Int) := wquo_u32 _ 256 (by omega) (by omega)
    have e3 : wcv IntKind.u8 ((n / 256 ^ x1.toNat % 256 : Nat) : Int) = ((n / 256 ^ x1.toNat % 256 : Nat) : Int) := by rw [wcv_u8]; simp
    rw [e2, e3, e1, w]
    refine ⟨by omega, ?_, by omega, rfl, ⟨by omega, by omega, ?_, ?_⟩, mlt (by dsimp only; omega)⟩
    · simp [lsum, rlen]; omega
    · rw [show (x1 + 1).toNat = x1.toNat + 1 by omega, Nat.pow_succ, Nat.div_div_eq_div_mul]
    · have hx : x1 = 0 ∨ x1 = 1 ∨ x1 = 2 ∨ x1 = 3 := by omega
      rw [s4_nat]
      rcases hx with rfl | rfl | rfl | rfl <;> simp [rapp]
  · simp at h
    rw [List.take_of_length_le (by rw [s4_len]; omega)]

theorem rseal_fn (l : List Int) (hb : Byts l) (hl : l.length ≤ 1000000) : Ct Tryz.prog 74 ⟨[], [.own]⟩ [SL 1 (bR l)] (fun r => r = [SL 1 (bR (sealB l))]) := by
  obtain ⟨n, hn, hlt⟩ := sum_nat hb
  refine rseal_nf _ _ (Cl.of (rplain_fn l hb hl) ⟨_, rfl, ?_⟩)
  rw [hn]
  refine Cl.of (rtail_fn l n hlt hl) ⟨_, rfl, ?_⟩
  rw [sealB, hn]

theorem bstr_seq {l m : List Int} (hl : Byts l) (hm : Byts m) : seq (bstr (bR l)) (bstr (bR m)) = decide (l = m) := by
  rw [seq_d]
  exact decide_eq_decide.2 (bstr_inj hl hm)
theorem bstr_sne {l m : List Int} (hl : Byts l) (hm : Byts m) : sne (bstr (bR l)) (bstr (bR m)) = decide (l ≠ m) := by
  have := bstr_seq hl hm
  unfold seq at this
  unfold sne
  rw [this]; simp

theorem rput_fn (k : Int) (l : List Int) (hk : 0 ≤ k ∧ k ≤ 255) (hb : Byts l) (hl : l.length ≤ 255) : Ct Tryz.prog 55 ⟨[], [.own]⟩ [I k, SL 1 (bR l)] (fun r => r = [SL 1 (bR (fr k l))]) := by
  have hrl : rlen (bR l) = l.length := by simp [rlen]
  have e1 : wquo IntKind.i64 (l.length : Int) 256 = 0 := by
    unfold wquo
    rw [Int.tdiv_eq_ediv_of_nonneg (by omega), show (l.length : Int) / 256 = 0 by omega]; rfl
  have e2 : wrem (l.length : Int) 256 = l.length := by
    unfold wrem
    rw [Int.tmod_eq_emod_of_nonneg (by omega)]; omega
  have e3 : wcv IntKind.u8 (l.length : Int) = l.length := wcv8 (by omega) (by omega)
  have e4 : wcv IntKind.u8 k = k := wcv8 (by omega) (by omega)
  have e0 : wcv IntKind.u8 0 = 0 := rfl
  refine rput_nf _ _ _ ?_
  rw [hrl, e1, e2, e3, e4, e0]
  have e5 : rapp [[U8 0], [U8 (l.length : Int)], [U8 k]] (bR l) = bR (0 :: (l.length : Int) :: k :: l) := rfl
  rw [e5]
  refine ⟨by omega, by omega, by simp [lsum, rlen]; omega, Cl.of (rseal_fn _ ?_ (by simp; omega)) ⟨_, rfl, rfl⟩⟩
  intro x hx
  simp at hx
  rcases hx with rfl | rfl | rfl | hx
  · omega
  · omega
  · omega
  · exact hb x hx

theorem rnext_fn (l : List Int) (a : Int) (hb : Byts l) (hl : l.length ≤ 1000000) : Ct Tryz.prog 64 {} [SL 1 (bR l), I a] (fun r => r = [.agg (nxS (nextF l a))]) := by
  have hrl : rlen (bR l) = l.length := by simp [rlen]
  refine rnext_nf _ _ _ ?_
  rw [hrl]
  refine ifB_intro (fun h => ?_) (fun h => ?_)
  · simp only [bor_t, ilt, igt, decide_eq_true_eq] at h
    have : a < 0 ∨ (l.length : Int) < a := by omega
    simp [nextF, this]
  simp only [bor_f, ilt, igt, decide_eq_false_iff_not] at h
  have hn : ¬ (a < 0 ∨ (l.length : Int) < a) := by omega
  have hnf : nextF l a = nextR (l.drop a.toNat) := by unfold nextF; rw [if_neg hn]
  have hbr : Byts (l.drop a.toNat) := hb.sub fun x hx => List.mem_of_mem_drop hx
  have hlr : ((l.drop a.toNat).length : Int) = l.length - a := by simp; omega
  have wl : wsub IntKind.i64 (l.length : Int) a = l.length - a := wsub_i64 (by omega) (by omega)
  have hg : ∀ i : Int, 0 ≤ i → i < (l.drop a.toNat).length → rget (bR l) (a + i) = [U8 (byAt (l.drop a.toNat) i)] := by
    intro i h0 h1
    rw [rget_bR (by omega) (by omega)]
    have : byAt l (a + i) = byAt (l.drop a.toNat) i := by
      unfold byAt
      rw [List.getD_eq_getElem?_getD, List.getD_eq_getElem?_getD, List.getElem?_drop, show (a + i).toNat = a.toNat + i.toNat by omega]
    rw [this]
  have hsub : ∀ x y : Int, 0 ≤ x → x ≤ y → y ≤ (l.drop a.toNat).length → rsub (bR l) (a + x) (a + y) = bR (((l.drop a.toNat).take y.toNat).drop x.toNat) := by
    intro x y h0 h1 h2
    rw [rsub_bR]
    congr 1
    rw [show (a + y).toNat = a.toNat + y.toNat by omega, show (a + x).toNat = a.toNat + x.toNat by omega, List.take_drop, List.drop_drop]
  rw [hnf, wl, ← hlr]
  generalize hr : l.drop a.toNat = r at *
  refine ifB_intro (fun h2 => ?_) (fun h2 => ifB_intro (fun h3 => ?_) (fun h3 => ?_))
  · simp at h2
    simp [nextR, h2]
  · simp at h2 h3
    simp [nextR, h2, show r.length < 7 by omega]
  simp at h2 h3
  have h7 : ¬ r.length < 7 := by omega
  have r0 := byAt_range hbr (i := 0) (by omega) (by omega)
  have r1 := byAt_range hbr (i := 1) (by omega) (by omega)
  have r2 := byAt_range hbr (i := 2) (by omega) (by omega)
  have g0 := hg 0 (by omega) (by omega)
  have g1 := hg 1 (by omega) (by omega)
  have g2 := hg 2 (by omega) (by omega)
  rw [show a + 0 = a by omega] at g0
  have w1 : wadd IntKind.i64 a 1 = a + 1 := wadd_i64 (by omega) (by omega)
  have w2 : wadd IntKind.i64 a 2 = a + 2 := wadd_i64 (by omega) (by omega)
  have w3 : wadd IntKind.i64 a 3 = a + 3 := wadd_i64 (by omega) (by omega)
  have w7 : wadd IntKind.i64 a 7 = a + 7 := wadd_i64 (by omega) (by omega)
  have c0 : wcv IntKind.i64 (byAt r 0) = byAt r 0 := wcvI64 (by omega) (by omega)
  have c1 : wcv IntKind.i64 (byAt r 1) = byAt r 1 := wcvI64 (by omega) (by omega)
  have c2 : wcv IntKind.i64 (byAt r 2) = byAt r 2 := wcvI64 (by omega) (by omega)
  have hm : wadd IntKind.i64 (wmul IntKind.i64 256 (byAt r 0)) (byAt r 1) = 256 * byAt r 0 + byAt r 1 := by
    have : wmul IntKind.i64 256 (byAt r 0) = 256 * byAt r 0 := wrap_i64 (by omega) (by omega)
    rw [this]; exact wadd_i64 (by omega) (by omega)
  have hstart : nextR r = if 200 < 256 * byAt r 0 + byAt r 1 then (3, 0, [], 0)
      else if (r.length : Int) < 256 * byAt r 0 + byAt r 1 + 7 then (2, 0, [], 0)
      else if ¬ (1 ≤ byAt r 2 ∧ byAt r 2 ≤ 3) then (3, 0, [], 0)
      else if sealB (r.take ((256 * byAt r 0 + byAt r 1).toNat + 3)) = r.take ((256 * byAt r 0 + byAt r 1).toNat + 7) then
        (0, byAt r 2, (r.take ((256 * byAt r 0 + byAt r 1).toNat + 3)).drop 3, 256 * byAt r 0 + byAt r 1 + 7) else (3, 0, [], 0) := by
    conv => lhs; unfold nextR
    rw [if_neg h2, if_neg h7]
  refine ⟨⟨by omega, by omega⟩, _, g0, by omega, _, by rw [w1]; exact g1, ?_⟩
  rw [c0, c1, hm, w2, w3, w7, hstart]
  have hn0 : 0 ≤ 256 * byAt r 0 + byAt r 1 := by omega
  have hn1 : 256 * byAt r 0 + byAt r 1 ≤ 70000 := by omega
  have hb0 : byAt r 0 = 0 ∨ 200 < 256 * byAt r 0 + byAt r 1 := by omega
  have hlen0 : byAt r 0 = 0 → byAt r 1 = 256 * byAt r 0 + byAt r 1 := by omega
  generalize hN : 256 * byAt r 0 + byAt r 1 = n at *
  refine ifB_intro (fun h4 => ?_) (fun h4 => ?_)
  · simp at h4
    simp [h4]
  simp at h4
  have wn7 : wadd IntKind.i64 7 n = n + 7 := by rw [wadd_i64 (by omega) (by omega)]; omega
  rw [wn7]
  refine ifB_intro (fun h5 => ?_) (fun h5 => ?_)
  · simp at h5
    simp [h5, show ¬ 200 < n by omega]
  simp at h5
  have w3n : wadd IntKind.i64 (a + 3) n = a + (n + 3) := by rw [wadd_i64 (by omega) (by omega)]; omega
  have w7n : wadd IntKind.i64 (a + 7) n = a + (n + 7) := by rw [wadd_i64 (by omega) (by omega)]; omega
  refine ⟨⟨by omega, by omega⟩, _, g2, ?_⟩
  rw [c2, w3n, w7n]
  have hs1 : rsub (bR l) (a + 3) (a + (n + 3)) = bR ((r.take (n.toNat + 3)).drop 3) := by
    rw [hsub 3 (n + 3) (by omega) (by omega) (by omega), show (n + 3).toNat = n.toNat + 3 by omega]; rfl
  have hs2 : rsub (bR l) a (a + (n + 7)) = bR (r.take (n.toNat + 7)) := by
    have := hsub 0 (n + 7) (by omega) (by omega) (by omega)
    rw [show a + 0 = a by omega] at this
    rw [this, show (n + 7).toNat = n.toNat + 7 by omega]; rfl
  rw [hs1, hs2]
  refine ⟨⟨by omega, by omega, by omega⟩, ifB_intro (fun h6 => ?_) (fun h6 => ?_)⟩
  · simp only [bor_t, ilt, igt, decide_eq_true_eq] at h6
    rw [if_neg (by omega), if_neg (by omega), if_pos (by omega)]
    rfl
  simp only [bor_f, ilt, igt, decide_eq_false_iff_not] at h6
  have hbp : Byts ((r.take (n.toNat + 3)).drop 3) := hbr.sub fun x hx => List.mem_of_mem_take (List.mem_of_mem_drop hx)
  have hlp : ((r.take (n.toNat + 3)).drop 3).length = n.toNat := by simp; omega
  have hbt : Byts (r.take (n.toNat + 7)) := hbr.sub fun x hx => List.mem_of_mem_take hx
  have hfb : Byts (fr (byAt r 2) ((r.take (n.toNat + 3)).drop 3)) := by
    refine sealB_byts ?_
    intro x hx
    simp only [List.mem_cons] at hx
    rcases hx with rfl | rfl | rfl | hx
    · omega
    · omega
    · omega
    · exact hbp x hx
  refine ⟨⟨by omega, by omega, by omega⟩, isBytes_bR hbt, Cl.of (rput_fn _ _ ⟨by omega, by omega⟩ hbp (by omega)) ⟨_, rfl, isBytes_bR hfb, ?_⟩⟩
  rw [bstr_sne hfb hbt]
  have h3t : r.take (n.toNat + 3) = 0 :: n :: byAt r 2 :: (r.take (n.toNat + 3)).drop 3 := by
    have b0 : byAt r 0 = 0 := by omega
    have b1 := hlen0 b0
    match r, h7, b0, b1 with
    | x :: y :: z :: t, _, b0, b1 =>
      simp [byAt] at b0 b1
      simp [byAt, b0, ← b1]
    | [], h7, _, _ => simp at h7
    | [_], h7, _, _ => simp at h7
    | [_, _], h7, _, _ => simp at h7
  have hfr : fr (byAt r 2) ((r.take (n.toNat + 3)).drop 3) = sealB (r.take (n.toNat + 3)) := by
    unfold fr
    rw [hlp, show ((n.toNat : Nat) : Int) = n by omega, ← h3t]
  rw [hfr, if_neg (by omega), if_neg (by omega), if_neg (by omega)]
  by_cases he : sealB (r.take (n.toNat + 3)) = r.take (n.toNat + 7)
  · rw [if_pos he]
    exact ifB_intro (fun h => by simp [he] at h) (fun _ => rfl)
  · rw [if_neg he]
    exact ifB_intro (fun _ => rfl) (fun h => by simp at h; exact absurd h he)
end Go.Proofs.YtbocfphenkidnaaGreatDoor.Sgr

namespace Go.Proofs.YtbocfphenkidnaaGreatDoor.Seg
open Go Go.Px Go.Proofs Go.Proofs.YtbocfphenkidnaaGreatDoor.Cod
set_option maxRecDepth 100000
set_option linter.unusedVariables false

theorem sawake_nf  (Q : List SV → Prop) (h : Cl Tryz.prog 19 sP ([I 7, SV.agg ([I 3, I 8, SL 1 []]), SL 7 ([[I 4, I 9, I 4, S (ByteArray.mk (Array.mk [100, 98])), I 1, I ((0 : Int)), I ((0 : Int))], [I 5, I 9, I 7, S (ByteArray.mk (Array.mk [113])), I ((0 : Int)), I ((0 : Int)), I ((0 : Int))]]), B true]) (fun (rs : List SV) => ∃ l : List (List SV), ∃ x : Int, (rs = [SL 1 l, I x]) ∧ (Cl Tryz.prog 23 sP [SL 1 l] (fun (rs1 : List SV) => ∃ x1 : Int, ∃ x2 : Int, ∃ x3 : Int, ∃ l1 : List (List SV), ∃ l2 : List (List SV), ∃ x4 : Int, ∃ x5 : Int, ∃ l3 : List (List SV), ∃ x6 : Int, ∃ x7 : Int, (rs1 = [SV.agg [I x1, I x2, I x3, SL 1 l1, SL 7 l2, I x4, I x5, SL 1 l3, I x6, I x7]]) ∧ (((lsum (rlen []) (rlen l)) ≤ ((2147483648 : Int))) ∧ (((lsum (rlen (rapp [] l)) (rlen ([[U8 1]]))) ≤ ((2147483648 : Int))) ∧ (Cl Tryz.prog 23 sP ([SL 1 (rapp (rapp [] l) ([[U8 1]]))]) (fun (rs2 : List SV) => ∃ x8 : Int, ∃ x9 : Int, ∃ x10 : Int, ∃ l4 : List (List SV), ∃ l5 : List (List SV), ∃ x11 : Int, ∃ x12 : Int, ∃ l6 : List (List SV), ∃ x13 : Int, ∃ x14 : Int, (rs2 = [SV.agg [I x8, I x9, I x10, SL 1 l4, SL 7 l5, I x11, I x12, SL 1 l6, I x13, I x14]]) ∧ (ifB (bpick (bpick (bpick (ieq x 0) (ieq x6 4) false) (ieq x1 7) false) (ieq x7 (rlen l)) false) (Cl Tryz.prog 47 sP ([SL 7 l2, SL 7 ([[I 4, I 9, I 4, S (ByteArray.mk (Array.mk [100, 98])), I 1, I ((0 : Int)), I ((0 : Int))], [I 5, I 9, I 7, S (ByteArray.mk (Array.mk [113])), I ((0 : Int)), I ((0 : Int)), I ((0 : Int))]])]) (fun (rs3 : List SV) => ∃ b : Bool, (rs3 = [B b]) ∧ (ifB (bpick (bpick b (ieq x4 5) false) (ieq x13 3) false) (Cl Tryz.prog 21 sP [I 7] (fun (rs4 : List SV) => ∃ s : ByteArray, (rs4 = [S s]) ∧ (Q ([B (seq s (ByteArray.mk (Array.mk [115, 101, 103, 46, 48, 48, 48, 48, 48, 48, 48, 55])))])))) (Q [B false])))) (Q [B false])))))))))) : Ct Tryz.prog 7 {} ([] : List SV) Q :=
  fn_of (f := 7) SgT SvT (fun _ => none) Tryz.f7 Tryz.func7 (by kernel_rfl) (by kernel_rfl) h

end Go.Proofs.YtbocfphenkidnaaGreatDoor.Seg

namespace Go.Proofs.YtbocfphenkidnaaGreatDoor.Seg
open Go Go.Px Go.Proofs Go.Proofs.YtbocfphenkidnaaGreatDoor.Cod
set_option maxRecDepth 100000
set_option linter.unusedVariables false

theorem ifB_t {b : Bool} {x y : Prop} (hb : b = true) (h : x) : ifB b x y := ifB_intro (fun _ => h) (fun e => by rw [hb] at e; cases e)
theorem ifB_f {b : Bool} {x y : Prop} (hb : b = false) (h : y) : ifB b x y := ifB_intro (fun e => by rw [hb] at e; cases e) (fun _ => h)

theorem esame_fn (es : List EvD) (hl : es.length ≤ 1000000) : Ct Tryz.prog 47 {} [SL 7 (evR es), SL 7 (evR es)] (fun r => r = [B true]) := by
  refine esame_nf _ _ _ (ifB_intro (fun h => by simp at h) (fun _ => ?_))
  refine ⟨fun _ x => 0 ≤ x ∧ x ≤ es.length, fun _ x => (es.length - x).toNat, ⟨by omega, by omega⟩, ?_⟩
  rintro _ x ⟨h0, h1⟩
  refine ifB_intro (fun h => ?_) (fun h => rfl)
  simp at h
  have w : wadd IntKind.i64 x 1 = x + 1 := wadd_i64 (by omega) (by omega)
  have hlt : x.toNat < es.length := by omega
  have hg : rget (evR es) x = [I es[x.toNat].s, I es[x.toNat].a, I es[x.toNat].k, S es[x.toNat].c, I es[x.toNat].x, I es[x.toNat].y, I es[x.toNat].z] := by simp [rget, hlt]
  refine ⟨⟨h0, by simpa using h⟩, _, _, _, _, _, _, _, hg, ⟨h0, by simpa using h⟩, _, _, _, _, _, _, _, hg, ?_⟩
  rw [w]
  exact ifB_intro (fun hb => by simp at hb) (fun _ => ⟨rfl, ⟨by omega, by omega⟩, mlt (by dsimp only; omega)⟩)

theorem hasp_fn (s t : ByteArray) (hl : slen t ≤ slen s) : Ct Tryz.prog 122 {} [S s, S t] (fun r => r = [B (seq (ssub s 0 (slen t)) t)]) := by
  refine hasp_nf _ _ _ (Cl.of (hasp2_nf s t _ (ifB_t (by simp only [ige_eq, decide_eq_true_eq]; omega) ⟨⟨by omega, by simp [slen], hl⟩, rfl⟩)) ⟨_, rfl, rfl⟩)

theorem mul7_fn : Ct Tryz.prog 121 {} [U64 1, U64 7] (fun r => r = [U64 0, U64 7]) := by
  have h : Ct Tryz.prog 193 {} [U64 1, U64 7] (fun r => r = [U64 0, U64 7]) := by
    refine mul64_nf 1 7 _ ⟨by omega, by omega, by omega, by omega, by omega, ?_⟩
    have h1 : wmul IntKind.u64 1 7 = 7 := by decide +kernel
    rw [h1]
    congr 2
  exact mul_nf _ _ _ (Cl.of h ⟨_, _, rfl, rfl⟩)

theorem repeat7_fn : Ct Tryz.prog 60 {} [S (ByteArray.mk (Array.mk [48])), I 7] (fun r => r = [S (ByteArray.mk (Array.mk [48, 48, 48, 48, 48, 48, 48]))]) := by
  refine srepeat_nf _ (ifB_f (by decide) (ifB_f (by decide) (ifB_f (by decide) ?_)))
  have e1 : wcv IntKind.u64 (slen (ByteArray.mk (Array.mk [48]))) = 1 := by decide +kernel
  have e2 : wcv IntKind.u64 7 = 7 := by decide +kernel
  have e3 : wcv IntKind.i64 7 = 7 := by decide +kernel
  rw [e1, e2]
  refine Cl.of mul7_fn ⟨_, _, rfl, ifB_f (by decide) (ifB_f (by decide +kernel) ⟨⟨by omega, by decide +kernel⟩, ?_⟩)⟩
  refine ⟨fun b => b = true, fun _ => 0, ifB_f (by decide +kernel) ⟨fun b => b = true, fun _ => 0, ifB_f (by decide +kernel) ⟨fun b => b = true, fun _ => 0, ifB_t (by decide +kernel) ⟨rfl, by decide +kernel⟩, fun b hb => ⟨rfl, hb⟩⟩, fun b hb => ⟨rfl, hb⟩⟩, fun b hb => ?_⟩
  refine ⟨fun _ => False, fun _ => 0, ifB_t hb ?_, fun _ h => h.elim⟩
  rw [e3]
  refine ifB_t (by decide) (Cl.of (hasp_fn _ _ (by decide +kernel)) ⟨_, rfl, ifB_f (by decide +kernel) ?_⟩)
  refine ifB_t (by decide) (Cl.of (hasp_fn _ _ (by decide +kernel)) ⟨_, rfl, ifB_f (by decide +kernel) ?_⟩)
  refine ifB_t (by decide) (Cl.of (hasp_fn _ _ (by decide +kernel)) ⟨_, rfl, ifB_t (by decide +kernel) ⟨⟨by omega, by omega, by decide +kernel⟩, ?_⟩⟩)
  have : ssub (ByteArray.mk (Array.mk [48, 48, 48, 48, 48, 48, 48, 48, 48, 48, 48, 48, 48, 48, 48, 48, 48, 48, 48, 48, 48, 48, 48, 48, 48, 48, 48, 48, 48, 48, 48, 48, 48, 48, 48, 48, 48, 48, 48, 48, 48, 48, 48, 48, 48, 48, 48, 48, 48, 48, 48, 48, 48, 48, 48, 48, 48, 48, 48, 48, 48, 48, 48, 48])) 0 7 = ByteArray.mk (Array.mk [48, 48, 48, 48, 48, 48, 48]) := by decide +kernel
  rw [this]

theorem fmt7_fn : Ct Tryz.prog 59 {} [I 7, I 10] (fun r => r = [S (ByteArray.mk (Array.mk [55]))]) := by
  have small : Ct Tryz.prog 188 {} [I 7] (fun r => r = [S (ByteArray.mk (Array.mk [55]))]) := by
    refine small_nf _ _ (ifB_t (by decide) ⟨⟨by omega, by decide +kernel, by decide +kernel⟩, ?_⟩)
    congr 3
  have h : Ct Tryz.prog 120 {} [I 7, I 10] (fun r => r = [S (ByteArray.mk (Array.mk [55]))]) := fmti2_nf 7 10 _ (ifB_t (by decide) (ifB_t (by decide) (Cl.of small ⟨_, rfl, rfl⟩)))
  exact fmti_nf _ _ _ (Cl.of h ⟨_, rfl, rfl⟩)

theorem sname7_fn : Ct Tryz.prog 21 {} [I 7] (fun r => r = [S (ByteArray.mk (Array.mk [115, 101, 103, 46, 48, 48, 48, 48, 48, 48, 48, 55]))]) := by
  refine sname_nf _ _ (Cl.of (numb_fn 7) ⟨_, rfl, ifB_f (by decide) (Cl.of fmt7_fn ⟨_, rfl, ?_⟩)⟩)
  have e : wsub IntKind.i64 8 (slen (ByteArray.mk (Array.mk [55]))) = 7 := by decide +kernel
  rw [e]
  refine Cl.of repeat7_fn ⟨_, rfl, by decide +kernel, by decide +kernel, ?_⟩
  have : scat (scat (ByteArray.mk (Array.mk [115, 101, 103, 46])) (ByteArray.mk (Array.mk [48, 48, 48, 48, 48, 48, 48]))) (ByteArray.mk (Array.mk [55])) = ByteArray.mk (Array.mk [115, 101, 103, 46, 48, 48, 48, 48, 48, 48, 48, 55]) := by decide +kernel
  rw [this]

end Go.Proofs.YtbocfphenkidnaaGreatDoor.Seg

namespace Go.Proofs.YtbocfphenkidnaaGreatDoor.Seg
open Go Go.Px Go.Proofs Go.Proofs.YtbocfphenkidnaaGreatDoor.Cod
set_option maxRecDepth 100000
set_option linter.unusedVariables false

theorem slP_byts (n s a : Int) : Byts (slP n s a) := Byts.app (byts_leb _) ((byts_leb _).app (byts_leb _))
theorem fr_byts {k : Int} {p : List Int} (hk : 0 ≤ k ∧ k ≤ 255) (hp : p.length ≤ 200) (h : Byts p) : Byts (fr k p) := by
  unfold fr
  refine sealB_byts (fun x hx => ?_)
  simp only [List.mem_cons] at hx
  rcases hx with rfl | rfl | rfl | hx
  · omega
  · omega
  · omega
  · exact h x hx
theorem recL_byts : ∀ (l : List EvD) (s a : Int) (m : List ByteArray), okL s a m l → Byts (recL s a m l)
  | [], _, _, _, _ => fun x hx => by simp [recL] at hx
  | e :: l, s, a, m, h => by
    have := encL_len h.1
    exact (fr_byts (by omega) (by omega) byts_enc).app (recL_byts l _ _ _ h.2)

theorem slP_len {d : Sc} (h : ScOK d) (h0 : d.num ≠ 0) : (slP d.ev.length d.s d.a).length ≤ 30 := by
  have hc := h.ctx h0
  have hq := okL_seq _ _ _ _ (h.evs h0)
  rw [← h.fin h0] at hq
  have hh := (h.head h0).2
  unfold ctxOK at hh hc
  have b1 : (leb (d.ev.length : Int).toNat).length ≤ 10 := leb_small (by omega)
  have b2 : (leb d.s.toNat).length ≤ 10 := leb_small (by omega)
  have b3 : (leb d.a.toNat).length ≤ 10 := leb_small (by omega)
  simp [slP] at b1 ⊢
  omega

theorem segL_byts {d : Sc} (h : ScOK d) : Byts (segL d) := by
  by_cases h0 : d.num = 0
  · intro x hx; simp [segL, h0] at hx
  rw [segL_pos h0]
  have hh := h.head h0
  unfold headOK ctxOK at hh
  have hl := hdP_len (n := d.num) (s := d.bs) (a := d.ba) (by omega) (by omega) (by omega)
  refine (fr_byts (by omega) (by omega) (byts_hdP _ _ _)).app ((recL_byts _ _ _ _ (h.evs h0)).app ?_)
  unfold slx
  split
  · have := slP_len h h0
    exact fr_byts (by omega) (by omega) (slP_byts _ _ _)
  · intro x hx; simp at hx

theorem segL_len {d : Sc} (h : ScOK d) : (segL d).length ≤ 80 + 127 * d.ev.length := by
  by_cases h0 : d.num = 0
  · simp [segL, h0]
  rw [segL_pos h0]
  have hh := h.head h0
  unfold headOK ctxOK at hh
  have hl := hdP_len (n := d.num) (s := d.bs) (a := d.ba) (by omega) (by omega) (by omega)
  have hr := recL_len2 _ _ _ _ (h.evs h0)
  have hs := slP_len h h0
  simp only [List.length_append, fr_len, slx]
  split
  · rw [fr_len]; omega
  · simp; omega

def e1 : EvD := ⟨4, 9, 4, ByteArray.mk (Array.mk [100, 98]), 1, 0, 0⟩
def e2 : EvD := ⟨5, 9, 7, ByteArray.mk (Array.mk [113]), 0, 0, 0⟩
theorem ok12 : okL 3 8 [] [e1, e2] := by
  refine ⟨⟨by decide +kernel, by decide +kernel, by decide, by decide, fun _ => by decide +kernel⟩, ⟨?_, by decide +kernel, by decide, by decide, fun _ => ?_⟩, trivial⟩
  · decide +kernel
  · decide +kernel

theorem awake_fn : Ct Tryz.prog 7 {} [] (fun r => r = [B true]) := by
  have hmk : mkOK 7 3 8 [] [e1, e2] := ⟨⟨by omega, by decide⟩, rfl, ok12⟩
  have ok := mkS_ok true hmk.1 hmk.2.2
  have hby := segL_byts ok
  have hle : (segL (mkS 7 3 8 [e1, e2] true)).length ≤ 80 + 127 * 2 := segL_len ok
  refine sawake_nf _ (Cl.ofQ (smake_fn 7 3 8 [] [e1, e2] true (by simp) (by simp)) ?_)
  rintro r (⟨_, rfl⟩ | ⟨hn, _⟩)
  rotate_left
  · exact absurd hmk hn
  refine ⟨_, _, rfl, Cl.ofQ (sread_fn _ hby (by omega)) ?_⟩
  rintro r ⟨d, st, rfl, hr⟩
  obtain ⟨rfl, rfl⟩ := hr.whole ok
  have hb1 : Byts (segL (mkS 7 3 8 [e1, e2] true) ++ [1]) := hby.app (fun x hx => by simp at hx; omega)
  refine ⟨_, _, _, _, _, _, _, _, _, _, rfl, by simp [lsum, rlen]; omega, by simp [lsum, rlen, rapp]; omega, ?_⟩
  have e0 : rapp (rapp [] (bR (segL (mkS 7 3 8 [e1, e2] true)))) [[U8 1]] = bR (segL (mkS 7 3 8 [e1, e2] true) ++ [1]) := by simp [rapp]
  rw [e0]
  refine Cl.ofQ (sread_fn _ hb1 (by simp; omega)) ?_
  rintro r ⟨d, st, rfl, hr2⟩
  have hb := hr2.far ok (List.prefix_append _ _)
  have hst : st = 3 := by
    rcases hb with e | ⟨h0, h1, h2, h3, ⟨u, hu, hs⟩, hl⟩
    · exact absurd (congrArg Sc.num e) (by decide)
    · have hd : mkS 7 3 8 [e1, e2] true = d := Sc.eq ok hr2.ok h0 h1 h2 h3 (by rw [hu, hs rfl]; simp) (hl rfl).symm
      rcases hr2.ext with ⟨w, k, p, n, hw, e, hst⟩ | ⟨k, p, n, e, tk, hst⟩
      · rw [← hd] at e hst
        simp only [List.drop_left'] at e
        have : nextR [1] = (2, 0, [], 0) := by simp [nextR]
        rw [this] at e
        simp only [Prod.mk.injEq] at e
        rw [hst, ← e.1]
        rfl
      · exact hst
  subst hst
  refine ⟨_, _, _, _, _, _, _, _, _, _, rfl, ifB_t ?_ (Cl.of (esame_fn [e1, e2] (by decide)) ⟨_, rfl, ifB_t ?_ (Cl.of sname7_fn ⟨_, rfl, ?_⟩)⟩)⟩
  · simp [mkS, endW, rlen]
  · decide +kernel
  · congr 2; decide +kernel

end Go.Proofs.YtbocfphenkidnaaGreatDoor.Seg

namespace Go.Proofs.YtbocfphenkidnaaGreatDoor.Sgr
open Go Go.Px Go.Proofs Go.Proofs.YtbocfphenkidnaaGreatDoor.Cod Go.Proofs.YtbocfphenkidnaaGreatDoor.Seg
set_option maxRecDepth 100000
set_option linter.unusedVariables false

def dgs : Nat → Nat → List UInt8
  | 0, _ => []
  | k + 1, n => dgs k (n / 10) ++ [UInt8.ofNat (48 + n % 10)]
theorem dgs_len : ∀ (k n : Nat), (dgs k n).length = k
  | 0, _ => rfl
  | k + 1, n => by simp [dgs, dgs_len k]
theorem dgs_cons : ∀ (k n : Nat), dgs (k + 1) n = UInt8.ofNat (48 + n / 10 ^ k % 10) :: dgs k n
  | 0, n => by simp [dgs]
  | k + 1, n => by
    have h := dgs_cons k (n / 10)
    rw [dgs, h, dgs]
    have : n / 10 / 10 ^ k = n / 10 ^ (k + 1) := by rw [Nat.div_div_eq_div_mul, Nat.pow_succ, Nat.mul_comm]
    rw [this]; rfl
theorem dgs_zero : ∀ k, dgs k 0 = List.replicate k 48
  | 0 => rfl
  | k + 1 => by
    rw [dgs]
    simp only [Nat.zero_div, dgs_zero k]
    rw [List.replicate_succ']; rfl
theorem dgs_dec : ∀ (k n : Nat), 1 ≤ k → n < 10 ^ k → List.replicate (k - (Lib.decDigits n).length) 48 ++ Lib.decDigits n = dgs k n
  | 0, _, h, _ => by omega
  | k + 1, n, _, hn => by
    by_cases h : n < 10
    · rw [Lib.decDigits_one h, dgs, show n / 10 = 0 by omega, dgs_zero, List.length_singleton, Nat.add_sub_cancel, Nat.mod_eq_of_lt h]
    · have h1 : 1 ≤ k := by
        rcases k with _ | k
        · omega
        · omega
      have ih := dgs_dec k (n / 10) h1 (by rw [Nat.pow_succ] at hn; omega)
      have e : Lib.decDigits n = Lib.decDigits (n / 10) ++ [UInt8.ofNat (48 + n % 10)] := by rw [Lib.decDigits, dif_neg h]
      rw [e, dgs, ← ih]
      simp
theorem decDigits_le {k n : Nat} (h1 : 1 ≤ k) (h : n < 10 ^ k) : (Lib.decDigits n).length ≤ k := by
  have := congrArg List.length (dgs_dec k n h1 h)
  rw [dgs_len] at this
  simp at this
  omega
theorem scat_l (a b : List UInt8) : scat ⟨a.toArray⟩ ⟨b.toArray⟩ = ⟨(a ++ b).toArray⟩ := by
  unfold scat
  apply ByteArray.ext
  simp
theorem slen_l (a : List UInt8) : slen ⟨a.toArray⟩ = a.length := by simp [slen, ByteArray.size]
theorem repeat0 (c : Nat) : Lib.repeatL [48] c = List.replicate c 48 := by
  have := Lib.repeatL_replicate 48 1 c
  simpa using this

def segNm (n : Int) : ByteArray := if 1 ≤ n ∧ n ≤ 99999999 then ⟨([115, 101, 103, 46] ++ dgs 8 n.toNat).toArray⟩ else ByteArray.mk #[]

theorem sname_fn (n : Int) : Ct Tryz.prog 21 {} [I n] (fun r => r = [S (segNm n)]) := by
  refine Sgr.sname_nf _ _ (Cl.of (numb_fn n) ⟨_, rfl, ifB_intro (fun h => ?_) (fun h => ?_)⟩)
  · simp at h
    have : ¬ (1 ≤ n ∧ n ≤ 99999999) := by omega
    simp [segNm, this]
  · simp at h
    have hi : Lib.itoa n = Lib.decDigits n.toNat := by unfold Lib.itoa; rw [if_neg (by omega)]
    have hl : (Lib.decDigits n.toNat).length ≤ 8 := decDigits_le (by omega) (by omega)
    refine Cl.of (fmt10_fn n (by omega) (by omega)) ⟨_, rfl, ?_⟩
    rw [hi, slen_l]
    have w : wsub IntKind.i64 8 ((Lib.decDigits n.toNat).length : Int) = ((8 - (Lib.decDigits n.toNat).length : Nat) : Int) := by
      rw [wsub_i64 (by omega) (by omega)]; omega
    rw [w]
    refine Cl.of (repeat_fn ⟨[48].toArray⟩ _ (by omega) (by simp [ByteArray.size]; omega)) ⟨_, rfl, ?_⟩
    have e0 : (ByteArray.mk (Array.mk [115, 101, 103, 46])) = ⟨([115, 101, 103, 46] : List UInt8).toArray⟩ := rfl
    have e1 : (ByteArray.mk [48].toArray).data.toList = [48] := rfl
    rw [e1, repeat0, e0, scat_l, scat_l, slen_l, slen_l, slen_l]
    refine ⟨by simp [lsum]; omega, by simp [lsum]; omega, ?_⟩
    rw [List.append_assoc, dgs_dec 8 n.toNat (by omega) (by omega)]
    simp [segNm, h.1, h.2]

theorem rmay_fn (n : Int) : Ct Tryz.prog 10 {} [I n] (fun r => r = [B (decide (1 ≤ n ∧ n ≤ 99999999))]) := by
  refine rmay_nf _ _ ?_
  by_cases h1 : 1 ≤ n <;> by_cases h2 : n ≤ 99999999 <;> simp [h1, h2]

theorem digit_row (d : Nat) (h : d < 10) : bstr [[U8 (wadd IntKind.u8 48 (wcv IntKind.u8 (d : Int)))]] = ⟨[UInt8.ofNat (48 + d)].toArray⟩ ∧ isBytes [[U8 (wadd IntKind.u8 48 (wcv IntKind.u8 (d : Int)))]] := by
  have e : wadd IntKind.u8 48 (wcv IntKind.u8 (d : Int)) = ((48 + d : Nat) : Int) := by
    rw [wcv_u8]
    simp [wadd, IntKind.wrap, IntKind.signed, IntKind.bits]
    omega
  rw [e]
  refine ⟨by simp only [bstr, List.map_cons, List.map_nil, byteOfRow, Int.toNat_natCast], fun r hr => ?_⟩
  simp at hr
  exact ⟨_, hr, by omega, by omega⟩

theorem rname_fn (n : Int) (hn : 1 ≤ n ∧ n ≤ 99999999) : Ct Tryz.prog 11 {} [I n] (fun r => r = [S (segNm n)]) := by
  refine rname_nf _ _ ⟨fun s x x1 => 0 ≤ x1 ∧ x1 ≤ 8 ∧ x = ((n.toNat / 10 ^ x1.toNat : Nat) : Int) ∧ s = ⟨(dgs x1.toNat n.toNat).toArray⟩, fun _ _ x1 => (8 - x1).toNat, ⟨by omega, by omega, by simp; omega, rfl⟩, ?_⟩
  rintro _ _ x1 ⟨i0, i1, rfl, rfl⟩
  refine ifB_intro (fun h => ?_) (fun h => ?_)
  · simp at h
    have w : wadd IntKind.i64 x1 1 = x1 + 1 := wadd_i64 (by omega) (by omega)
    have hle : n.toNat / 10 ^ x1.toNat ≤ n.toNat := Nat.div_le_self _ _
    have e2 : wrem ((n.toNat / 10 ^ x1.toNat : Nat) : Int) 10 = ((n.toNat / 10 ^ x1.toNat % 10 : Nat) : Int) := by
      generalize n.toNat / 10 ^ x1.toNat = z
      unfold wrem
      rw [Int.tmod_eq_emod_of_nonneg (by omega)]; omega
    have e1 : wquo .i64 ((n.toNat / 10 ^ x1.toNat : Nat) : Int) 10 = ((n.toNat / 10 ^ (x1 + 1).toNat : Nat) : Int) := by
      rw [show (x1 + 1).toNat = x1.toNat + 1 by omega, Nat.pow_succ, ← Nat.div_div_eq_div_mul]
      generalize n.toNat / 10 ^ x1.toNat = z at *
      unfold wquo
      rw [Int.tdiv_eq_ediv_of_nonneg (by omega), show (z : Int) / 10 = ((z / 10 : Nat) : Int) by omega]
      exact wrap_i64 (by omega) (by omega)
    obtain ⟨g1, g2⟩ := digit_row (n.toNat / 10 ^ x1.toNat % 10) (by omega)
    rw [e2, e1, w, g1, scat_l, slen_l, slen_l, dgs_len]
    refine ⟨by omega, g2, by simp [lsum]; omega, by omega, rfl, ⟨by omega, by omega, rfl, ?_⟩, mlt (by dsimp only; omega)⟩
    rw [show (x1 + 1).toNat = x1.toNat + 1 by omega, dgs_cons]; rfl
  · simp at h
    have e8 : x1.toNat = 8 := by omega
    have e0 : (ByteArray.mk (Array.mk [115, 101, 103, 46])) = ⟨([115, 101, 103, 46] : List UInt8).toArray⟩ := rfl
    rw [e8, e0, scat_l, slen_l, slen_l, dgs_len]
    refine ⟨by simp [lsum], ?_⟩
    simp [segNm, hn.1, hn.2]

theorem u64_id {a : Int} (h0 : 0 ≤ a) (h1 : a ≤ 9223372036854775807) : wcv IntKind.u64 a = a := by
  simp [wcv, IntKind.wrap, IntKind.signed, IntKind.bits]; omega
theorem i64_id {a : Int} (h0 : 0 ≤ a) (h1 : a ≤ 9223372036854775807) : wcv IntKind.i64 a = a := wrap_i64 (by omega) (by omega)

theorem rhead_fn (n s a : Int) (ns : List (List SV)) (hn : 0 ≤ n ∧ n ≤ 9223372036854775807) (h : ctxOK s a) : Ct Tryz.prog 13 ⟨[], [.own]⟩ [I n, cx3 s a ns] (fun r => r = [SL 1 (bR (fr 1 (hdP n s a)))]) := by
  unfold ctxOK at h
  have b1 : (leb n.toNat).length ≤ 10 := leb_small (by omega)
  have b2 : (leb s.toNat).length ≤ 10 := leb_small (by omega)
  have b3 : (leb a.toNat).length ≤ 10 := leb_small (by omega)
  refine rhead_nf _ _ _ _ _ ?_
  rw [u64_id (by omega) (by omega), u64_id (by omega) (by omega), u64_id (by omega) (by omega)]
  refine Cl.of (rputUint_fn [102, 98, 120, 49] n (by omega) (by omega) (by simp)) ⟨_, rfl, Cl.of (rputUint_fn _ s (by omega) (by omega) (by simp; omega)) ⟨_, rfl, Cl.of (rputUint_fn _ a (by omega) (by omega) (by simp; omega)) ⟨_, rfl, ?_⟩⟩⟩
  have e : [102, 98, 120, 49] ++ leb n.toNat ++ leb s.toNat ++ leb a.toNat = hdP n s a := by simp [hdP]
  rw [e]
  refine Cl.of (rput_fn 1 _ (by omega) (byts_hdP n s a) (by rw [← e]; simp; omega)) ⟨_, rfl, rfl⟩

theorem rsl_fn (n s a : Int) (ns : List (List SV)) (hn : 0 ≤ n ∧ n ≤ 9223372036854775807) (h : ctxOK s a) : Ct Tryz.prog 15 ⟨[], [.own]⟩ [I n, cx3 s a ns] (fun r => r = [SL 1 (bR (fr 3 (slP n s a)))]) := by
  unfold ctxOK at h
  have b1 : (leb n.toNat).length ≤ 10 := leb_small (by omega)
  have b2 : (leb s.toNat).length ≤ 10 := leb_small (by omega)
  have b3 : (leb a.toNat).length ≤ 10 := leb_small (by omega)
  refine rsl_nf _ _ _ _ _ ?_
  rw [u64_id (by omega) (by omega), u64_id (by omega) (by omega), u64_id (by omega) (by omega)]
  refine Cl.of (rputUint_fn [] n (by omega) (by omega) (by simp)) ⟨_, rfl, Cl.of (rputUint_fn _ s (by omega) (by omega) (by simp; omega)) ⟨_, rfl, Cl.of (rputUint_fn _ a (by omega) (by omega) (by simp; omega)) ⟨_, rfl, ?_⟩⟩⟩
  have e : [] ++ leb n.toNat ++ leb s.toNat ++ leb a.toNat = slP n s a := by simp [slP]
  rw [e]
  refine Cl.of (rput_fn 3 _ (by omega) (slP_byts n s a) (by rw [← e]; simp; omega)) ⟨_, rfl, rfl⟩

/-- What an event behind a context comes to. -/
def addR (s a : Int) (m : List ByteArray) (e : EvD) : List SV :=
  if encE s a m e = 0 then [SL 1 (bR (fr 2 (encL s a m e))), cx3 e.s e.a (nR (bhdN m e.c)), I 0] else [SL 1 [], cx3 s a (nR m), I (encE s a m e)]

theorem sadd2_fn (s a : Int) (m : List ByteArray) (e : EvD) : Ct Tryz.prog 16 {} [cx3 s a (nR m), e.sv] (fun r => r = addR s a m e) := by
  have he := encode_fn s a m e
  refine sadd_nf _ _ _ _ _ _ _ _ _ _ _ ?_
  unfold addR
  by_cases hE : encE s a m e = 0
  · have ok := encE_zero.1 hE
    have hl := encL_len ok
    unfold encR at he
    rw [if_pos hE] at he
    refine Cl.of he ⟨_, _, _, _, _, rfl, ifB_intro (fun h2 => by simp at h2) (fun _ => ?_)⟩
    have hf := fput_fn 2 _ (byts_enc (cs := s) (ca := a) (l := m) (e := e)) (by omega)
    have : putF 2 (encL s a m e) = (fr 2 (encL s a m e), 0) := by unfold putF; rw [if_neg (by omega), if_neg (by omega)]
    rw [this] at hf
    exact Cl.of hf ⟨_, _, rfl, ifB_intro (fun h2 => by simp at h2) (fun _ => by rw [if_pos hE])⟩
  · unfold encR at he
    rw [if_neg hE] at he
    exact Cl.of he ⟨_, _, _, _, _, rfl, ifB_intro (fun _ => by rw [if_neg hE]) (fun h2 => by simp at h2; exact absurd h2 hE)⟩

theorem radd_fn (s a : Int) (m : List ByteArray) (e : EvD) (hm : m.length ≤ 1000000) : Ct Tryz.prog 17 {} [cx3 s a (nR m), e.sv] (fun r => r = addR s a m e) := by
  have he := rencode_fn s a m e hm
  refine radd_nf _ _ _ _ _ _ _ _ _ _ _ ?_
  unfold addR
  by_cases hE : encE s a m e = 0
  · have ok := encE_zero.1 hE
    have hl := encL_len ok
    unfold encR at he
    rw [if_pos hE] at he
    refine Cl.of he ⟨_, _, _, _, _, rfl, ifB_intro (fun h2 => by simp at h2) (fun _ => ?_)⟩
    exact Cl.of (rput_fn 2 _ (by omega) (byts_enc (cs := s) (ca := a) (l := m) (e := e)) (by omega)) ⟨_, rfl, by rw [if_pos hE]⟩
  · unfold encR at he
    rw [if_neg hE] at he
    exact Cl.of he ⟨_, _, _, _, _, rfl, ifB_intro (fun _ => by rw [if_neg hE]) (fun h2 => by simp at h2; exact absurd h2 hE)⟩

theorem sseal2_fn (n s a : Int) (m : List ByteArray) (h1 : n ≤ 9223372036854775807) : Ct Tryz.prog 14 {} [I n, cx3 s a (nR m)] (fun r =>
    r = if ctxB s a m = true ∧ 0 ≤ n then [SL 1 (bR (fr 3 (slP n s a))), I 0] else [SL 1 [], I 1]) := by
  by_cases h0 : 0 ≤ n
  · refine (sseal_fn n s a m h0 h1).mono ?_
    rintro r rfl
    simp [h0]
  · refine sseal_nf _ _ _ _ _ (ifB_intro (fun h => ?_) (fun h => by simp at h; omega))
    rw [if_neg (by omega)]

/-- The first error of events in a row. -/
def recE : Int → Int → List ByteArray → List EvD → Int
  | _, _, _, [] => 0
  | s, a, m, e :: l => if encE s a m e = 0 then recE e.s e.a (bhdN m e.c) l else encE s a m e
theorem recE_zero : ∀ (l : List EvD) (s a : Int) (m : List ByteArray), recE s a m l = 0 ↔ okL s a m l
  | [], _, _, _ => by simp [recE, okL]
  | e :: l, s, a, m => by
    simp only [recE, okL]
    by_cases h : encE s a m e = 0
    · rw [if_pos h, recE_zero l]
      exact ⟨fun k => ⟨encE_zero.1 h, k⟩, fun k => k.2⟩
    · rw [if_neg h]
      exact ⟨fun k => absurd k h, fun k => absurd (encE_zero.2 k.1) h⟩
theorem recE_app : ∀ (p q : List EvD) (s a : Int) (m : List ByteArray), okL s a m p → recE s a m (p ++ q) = recE (fin3 s a m p).1 (fin3 s a m p).2.1 (fin3 s a m p).2.2 q
  | [], q, _, _, _, _ => rfl
  | e :: p, q, s, a, m, h => by
    simp only [List.cons_append, recE, fin3]
    rw [if_pos (encE_zero.2 h.1), recE_app p q _ _ _ h.2]
instance (n s a : Int) : Decidable (Seg.headOK n s a) := by unfold Seg.headOK ctxOK; infer_instance
def mkE (n s a : Int) (m : List ByteArray) (l : List EvD) : Int := if headOK n s a ∧ m = [] then recE s a [] l else 1
def mkR (n s a : Int) (m : List ByteArray) (l : List EvD) (sl : Bool) : List SV := if mkE n s a m l = 0 then [SL 1 (bR (segL (mkS n s a l sl))), I 0] else [SL 1 [], I (mkE n s a m l)]
theorem mkE_zero {n s a : Int} {m : List ByteArray} {l : List EvD} : mkE n s a m l = 0 ↔ mkOK n s a m l := by
  unfold mkE mkOK
  by_cases h : headOK n s a ∧ m = []
  · rw [if_pos h, recE_zero]
    exact ⟨fun k => ⟨h.1, h.2, k⟩, fun k => k.2.2⟩
  · rw [if_neg h]
    exact ⟨fun k => by omega, fun k => absurd ⟨k.1, k.2.1⟩ h⟩
theorem recE_at {s a : Int} {l : List EvD} {i : Nat} (hi : i < l.length) (ok : okL s a [] (l.take i)) (h : encE (fin3 s a [] (l.take i)).1 (fin3 s a [] (l.take i)).2.1 (fin3 s a [] (l.take i)).2.2 l[i] ≠ 0) :
    recE s a [] l = encE (fin3 s a [] (l.take i)).1 (fin3 s a [] (l.take i)).2.1 (fin3 s a [] (l.take i)).2.2 l[i] := by
  have h1 : l = l.take i ++ (l[i] :: l.drop (i + 1)) := by simp
  conv => lhs; rw [h1]
  rw [recE_app _ _ _ _ _ ok, recE, if_neg h]
end Go.Proofs.YtbocfphenkidnaaGreatDoor.Sgr

namespace Go.Proofs.YtbocfphenkidnaaGreatDoor.Sgr
open Go Go.Px Go.Proofs Go.Proofs.YtbocfphenkidnaaGreatDoor.Cod Go.Proofs.YtbocfphenkidnaaGreatDoor.Seg
set_option maxRecDepth 100000
set_option linter.unusedVariables false

theorem smake2_fn (n s a : Int) (m : List ByteArray) (l : List EvD) (sl : Bool) (hm : m.length ≤ 9223372036854775807) (hl : l.length ≤ 100000) : Ct Tryz.prog 19 {} [I n, cx3 s a (nR m), SL 7 (evR l), B sl] (fun r => r = mkR n s a m l sl) := by
  have hrl : rlen (evR l) = l.length := by simp [rlen]
  refine smake_nf _ _ _ _ _ _ _ (Cl.of (shead_fn n s a m hm) ⟨_, _, rfl, ?_⟩)
  by_cases hh : Seg.headOK n s a ∧ m = []
  rotate_left
  · have : (headE n s a m).2 = 1 := by
      unfold headE
      split
      · rfl
      · rename_i h1
        rw [if_pos]
        rintro ⟨h2, h3⟩
        exact hh ⟨⟨by omega, h2⟩, h3⟩
    rw [this]
    refine ifB_intro (fun _ => ?_) (fun h => by simp at h)
    simp only [mkR, mkE, if_neg hh]; rfl
  obtain ⟨hok, rfl⟩ := hh
  have he : headE n s a [] = (fr 1 (hdP n s a), 0) := by
    unfold headE
    rw [if_neg (by simp; exact hok.1), if_neg (by simp; exact hok.2)]
  rw [he, hrl]
  have hok1 := hok
  unfold Seg.headOK ctxOK at hok1
  have hn0 : n ≠ 0 := by omega
  have hhl := hdP_len (n := n) (s := s) (a := a) (by omega) (by omega) (by omega)
  have hfl : (fr 1 (hdP n s a)).length ≤ 41 := by rw [fr_len]; omega
  have hmE : mkE n s a [] l = recE s a [] l := by unfold mkE; rw [if_pos ⟨hok, rfl⟩]
  refine ifB_intro (fun h => by simp at h) (fun _ => ?_)
  refine ⟨fun q i x y z => 0 ≤ i ∧ i ≤ l.length ∧ okL s a [] (l.take i.toNat) ∧ q = bR (fr 1 (hdP n s a) ++ recL s a [] (l.take i.toNat)) ∧ (x, y, z) = ((fin3 s a [] (l.take i.toNat)).1, (fin3 s a [] (l.take i.toNat)).2.1, nR (fin3 s a [] (l.take i.toNat)).2.2),
    fun _ i _ _ _ => (l.length - i).toNat, ⟨by omega, by omega, trivial, by simp [recL], rfl⟩, ?_⟩
  rintro _ i x y z ⟨i0, i1, ok, rfl, hz⟩
  simp only [Prod.mk.injEq] at hz
  obtain ⟨rfl, rfl, rfl⟩ := hz
  have hrc := recL_len2 _ _ _ _ ok
  have htl : (l.take i.toNat).length ≤ 100000 := by simp; omega
  refine ifB_intro (fun h => ?_) (fun h => ?_)
  · simp at h
    have hlt : i.toNat < l.length := by omega
    have w : wadd IntKind.i64 i 1 = i + 1 := wadd_i64 (by omega) (by omega)
    rw [w]
    refine ⟨⟨i0, h⟩, l[i.toNat].s, l[i.toNat].a, l[i.toNat].k, l[i.toNat].c, l[i.toNat].x, l[i.toNat].y, l[i.toNat].z, ?_, ?_⟩
    · simp [rget, hlt]
    refine Cl.ofQ (sadd2_fn _ _ _ l[i.toNat]) ?_
    rintro r rfl
    unfold addR
    by_cases hE : encE (fin3 s a [] (l.take i.toNat)).1 (fin3 s a [] (l.take i.toNat)).2.1 (fin3 s a [] (l.take i.toNat)).2.2 l[i.toNat] = 0
    · rw [if_pos hE]
      have h1 := encE_zero.1 hE
      refine ⟨_, _, _, _, _, rfl, ifB_intro (fun h => by simp at h) (fun _ => ?_)⟩
      have hx := encL_len h1
      refine ⟨?_, rfl, ⟨by omega, by omega, ?_, ?_, ?_⟩, ?_⟩
      · simp [lsum, rlen, fr_len]; omega
      · rw [show (i + 1).toNat = i.toNat + 1 by omega, List.take_succ_eq_append_getElem hlt, okL_snoc]
        exact ⟨ok, h1⟩
      · rw [show (i + 1).toNat = i.toNat + 1 by omega, List.take_succ_eq_append_getElem hlt, recL_snoc]
        simp [rapp]
      · rw [show (i + 1).toNat = i.toNat + 1 by omega, List.take_succ_eq_append_getElem hlt, fin3_snoc]
      · show Nat.succ (l.length - (i + 1)).toNat ≤ (l.length - i).toNat; omega
    · rw [if_neg hE]
      refine ⟨_, _, _, _, _, rfl, ifB_intro (fun _ => ?_) (fun h => by simp at h; exact absurd h hE)⟩
      have hr := recE_at hlt ok hE
      unfold mkR
      rw [hmE, hr, if_neg hE]
  · simp at h
    rw [List.take_of_length_le (by omega)] at ok hrc ⊢
    have hcx : ctxB s a [] = true := ctx_nil.2 hok.2
    have hz : mkR n s a [] l sl = [SL 1 (bR (segL (mkS n s a l sl))), I 0] := by unfold mkR; rw [if_pos (mkE_zero.2 ⟨hok, rfl, ok⟩)]
    rw [hz]
    refine ifB_intro (fun hs => ?_) (fun hs => ?_)
    · subst hs
      refine Cl.of (sseal_fn l.length _ _ _ (by omega) (by omega)) ?_
      have hr := okL_right _ _ _ _ hcx ok
      rw [if_pos hr]
      refine ⟨_, _, rfl, ifB_intro (fun h => by simp at h) (fun _ => ⟨?_, ?_⟩)⟩
      · have hcb := (ctxB_iff.1 hr).1
        have b1 : (leb (l.length : Int).toNat).length ≤ 10 := leb_small (by omega)
        have b2 : (leb (fin3 s a [] l).1.toNat).length ≤ 10 := leb_small (by omega)
        have b3 : (leb (fin3 s a [] l).2.1.toNat).length ≤ 10 := leb_small (by omega)
        simp only [lsum, rlen, List.length_map, List.length_append, fr_len, slP, Int.ofNat_eq_natCast]
        omega
      · rw [segL_mk hn0]
        simp [rapp]
    · subst hs
      rw [segL_mk hn0]
      simp

theorem rmake_fn (n s a : Int) (m : List ByteArray) (l : List EvD) (sl : Bool) (hm : m.length ≤ 1000000) (hl : l.length ≤ 100000) : Ct Tryz.prog 20 {} [I n, cx3 s a (nR m), SL 7 (evR l), B sl] (fun r => r = mkR n s a m l sl) := by
  have hrl : rlen (evR l) = l.length := by simp [rlen]
  have hbad : ¬ (Seg.headOK n s a ∧ m = []) → ([SL 1 [], I 1] : List SV) = mkR n s a m l sl := fun hh => by simp only [mkR, mkE, if_neg hh]; rfl
  refine Sgr.rmake_nf _ _ _ _ _ _ _ (Cl.of (rmay_fn n) ⟨_, rfl, ifB_intro (fun h => ?_) (fun h => ?_)⟩)
  · simp at h
    refine hbad fun hh => ?_
    have := hh.1.1
    omega
  simp at h
  refine Cl.of (crright_fn s a m hm) ⟨_, rfl, ifB_intro (fun h2 => ?_) (fun h2 => ?_)⟩
  · refine hbad ?_
    rintro ⟨hh, rfl⟩
    rw [ctx_nil.2 hh.2] at h2
    simp [rlen] at h2
  have hnm : ctxB s a m = true ∧ m = [] := by
    rw [bor_f] at h2
    refine ⟨by simpa using h2.1, ?_⟩
    have := h2.2
    rcases m with _ | ⟨x, m⟩
    · rfl
    · exfalso
      simp [rlen] at this
  obtain ⟨hcx, rfl⟩ := hnm
  have hok : Seg.headOK n s a := ⟨h, ctx_nil.1 hcx⟩
  have hok1 := hok
  unfold Seg.headOK ctxOK at hok1
  have hn0 : n ≠ 0 := by omega
  have hhl := hdP_len (n := n) (s := s) (a := a) (by omega) (by omega) (by omega)
  have hfl : (fr 1 (hdP n s a)).length ≤ 41 := by rw [fr_len]; omega
  have hmE : mkE n s a [] l = recE s a [] l := by unfold mkE; rw [if_pos ⟨hok, rfl⟩]
  refine Cl.of (rhead_fn n s a _ (by omega) hok.2) ⟨_, rfl, ?_⟩
  rw [hrl]
  refine ⟨fun q i x y z => 0 ≤ i ∧ i ≤ l.length ∧ okL s a [] (l.take i.toNat) ∧ q = bR (fr 1 (hdP n s a) ++ recL s a [] (l.take i.toNat)) ∧ (x, y, z) = ((fin3 s a [] (l.take i.toNat)).1, (fin3 s a [] (l.take i.toNat)).2.1, nR (fin3 s a [] (l.take i.toNat)).2.2),
    fun _ i _ _ _ => (l.length - i).toNat, ⟨by omega, by omega, trivial, by simp [recL], rfl⟩, ?_⟩
  rintro _ i x y z ⟨i0, i1, ok, rfl, hz⟩
  simp only [Prod.mk.injEq] at hz
  obtain ⟨rfl, rfl, rfl⟩ := hz
  have hrc := recL_len2 _ _ _ _ ok
  have htl : (l.take i.toNat).length ≤ 100000 := by simp; omega
  have hcx' := okL_right _ _ _ _ hcx ok
  have hml : (fin3 s a [] (l.take i.toNat)).2.2.length ≤ 1000000 := by
    have := (rgtB_iff.1 (ctxB_iff.1 hcx').2).1
    omega
  refine ifB_intro (fun h => ?_) (fun h => ?_)
  · simp at h
    have hlt : i.toNat < l.length := by omega
    have w : wadd IntKind.i64 i 1 = i + 1 := wadd_i64 (by omega) (by omega)
    rw [w]
    refine ⟨⟨i0, h⟩, l[i.toNat].s, l[i.toNat].a, l[i.toNat].k, l[i.toNat].c, l[i.toNat].x, l[i.toNat].y, l[i.toNat].z, by simp [rget, hlt], ?_⟩
    constructor
    all_goals
      refine Cl.ofQ (radd_fn _ _ _ l[i.toNat] hml) ?_
      rintro r rfl
      unfold addR
      by_cases hE : encE (fin3 s a [] (l.take i.toNat)).1 (fin3 s a [] (l.take i.toNat)).2.1 (fin3 s a [] (l.take i.toNat)).2.2 l[i.toNat] = 0
      · rw [if_pos hE]
        have h1 := encE_zero.1 hE
        refine ⟨_, _, _, _, _, rfl, ifB_intro (fun h => by simp at h) (fun _ => ?_)⟩
        have hx := encL_len h1
        refine ⟨?_, rfl, ⟨by omega, by omega, ?_, ?_, ?_⟩, ?_⟩
        · simp [lsum, rlen, fr_len]; omega
        · rw [show (i + 1).toNat = i.toNat + 1 by omega, List.take_succ_eq_append_getElem hlt, okL_snoc]
          exact ⟨ok, h1⟩
        · rw [show (i + 1).toNat = i.toNat + 1 by omega, List.take_succ_eq_append_getElem hlt, recL_snoc]
          simp [rapp]
        · rw [show (i + 1).toNat = i.toNat + 1 by omega, List.take_succ_eq_append_getElem hlt, fin3_snoc]
        · show Nat.succ (l.length - (i + 1)).toNat ≤ (l.length - i).toNat; omega
      · rw [if_neg hE]
        refine ⟨_, _, _, _, _, rfl, ifB_intro (fun _ => ?_) (fun h => by simp at h; exact absurd h hE)⟩
        have hr := recE_at hlt ok hE
        unfold mkR
        rw [hmE, hr, if_neg hE]
  · simp at h
    rw [List.take_of_length_le (by omega)] at ok hrc hcx' ⊢
    have hz : mkR n s a [] l sl = [SL 1 (bR (segL (mkS n s a l sl))), I 0] := by unfold mkR; rw [if_pos (mkE_zero.2 ⟨hok, rfl, ok⟩)]
    rw [hz]
    have hcb := (ctxB_iff.1 hcx').1
    refine ifB_intro (fun hs => ?_) (fun hs => ?_)
    · subst hs
      refine Cl.of (rsl_fn l.length _ _ _ (by omega) hcb) ⟨_, rfl, ?_, ?_⟩
      · have b1 : (leb (l.length : Int).toNat).length ≤ 10 := leb_small (by omega)
        have b2 : (leb (fin3 s a [] l).1.toNat).length ≤ 10 := leb_small (by omega)
        have b3 : (leb (fin3 s a [] l).2.1.toNat).length ≤ 10 := leb_small (by omega)
        simp only [lsum, rlen, List.length_map, List.length_append, fr_len, slP, Int.ofNat_eq_natCast]
        omega
      · rw [segL_mk hn0]
        simp [rapp]
    · subst hs
      rw [segL_mk hn0]
      simp

/-- The document's reading of a head. -/
theorem rhd_fn (p : List Int) (hb : Byts p) (hl : p.length ≤ 255) : Ct Tryz.prog 65 {} [SL 1 (bR p)] (fun r =>
    (∃ n s a, Seg.headOK n s a ∧ p = hdP n s a ∧ r = [I n, cx3 s a []]) ∨ ((∀ n s a, Seg.headOK n s a → p ≠ hdP n s a) ∧ r = [I 0, cx3 0 0 []])) := by
  have hrl : rlen (bR p) = p.length := by simp [rlen]
  have no : (∀ n s a, Seg.headOK n s a → p ≠ hdP n s a) → (∃ n s a, Seg.headOK n s a ∧ p = hdP n s a ∧ ([I 0, cx3 0 0 []] : List SV) = [I n, cx3 s a []]) ∨ ((∀ n s a, Seg.headOK n s a → p ≠ hdP n s a) ∧ ([I 0, cx3 0 0 []] : List SV) = [I 0, cx3 0 0 []]) := fun h => .inr ⟨h, rfl⟩
  refine rhd_nf _ _ ?_
  rw [hrl]
  refine ifB_intro (fun h => ?_) (fun h => ?_)
  · simp at h
    refine no fun n s a hk e => ?_
    have := congrArg List.length e
    simp [hdP] at this
    omega
  simp at h
  refine ⟨fun x l x1 x2 x3 x4 x5 => l = bR p ∧ ((x = 0 ∧ x1 = 4 ∧ x2 = 0) ∨ (x = 1 ∧ UOut p 4 0 x1 x2 x3) ∨ (x = 2 ∧ ∃ a1 er1, UOut p 4 0 a1 er1 x3 ∧ UOut p a1 er1 x1 x2 x4) ∨
      (x = 3 ∧ ∃ a1 er1 a2 er2, UOut p 4 0 a1 er1 x3 ∧ UOut p a1 er1 a2 er2 x4 ∧ UOut p a2 er2 x1 x2 x5)), fun x _ _ _ _ _ _ => (3 - x).toNat, ⟨rfl, .inl ⟨rfl, rfl, rfl⟩⟩, ?_⟩
  rintro x _ x1 x2 x3 x4 x5 ⟨rfl, hx⟩
  refine ifB_intro (fun h3 => ?_) (fun h3 => ?_)
  · simp at h3
    refine Cl.ofQ (ruint_fn p x1 x2 (by omega) hb) ?_
    rintro r ⟨a', er', n', rfl, o⟩
    have x0 : 0 ≤ x := by omega
    have w : wadd IntKind.i64 x 1 = x + 1 := wadd_i64 (by omega) (by omega)
    rw [w]
    refine ⟨_, _, _, _, rfl, ⟨by omega, by omega⟩, ?_, ?_, ?_, trivial⟩
    · rintro rfl
      refine ⟨rfl, ⟨rfl, .inr (.inl ⟨rfl, ?_⟩)⟩, mlt (by dsimp only; omega)⟩
      rcases hx with ⟨_, rfl, rfl⟩ | ⟨hx, _⟩ | ⟨hx, _⟩ | ⟨hx, _⟩
      · exact o
      all_goals omega
    · rintro rfl
      refine ⟨rfl, ⟨rfl, .inr (.inr (.inl ⟨rfl, ?_⟩))⟩, mlt (by dsimp only; omega)⟩
      rcases hx with ⟨hx, _⟩ | ⟨_, o1⟩ | ⟨hx, _⟩ | ⟨hx, _⟩
      · omega
      · exact ⟨_, _, o1, o⟩
      all_goals omega
    · rintro rfl
      refine ⟨rfl, ⟨rfl, .inr (.inr (.inr ⟨rfl, ?_⟩))⟩, mlt (by dsimp only; omega)⟩
      rcases hx with ⟨hx, _⟩ | ⟨hx, _⟩ | ⟨_, a1, er1, o1, o2⟩ | ⟨hx, _⟩
      · omega
      · omega
      · exact ⟨_, _, _, _, o1, o2, o⟩
      · omega
  simp at h3
  have hx : ∃ a1 er1 a2 er2, UOut p 4 0 a1 er1 x3 ∧ UOut p a1 er1 a2 er2 x4 ∧ UOut p a2 er2 x1 x2 x5 := by
    rcases hx with ⟨hx, _⟩ | ⟨hx, _⟩ | ⟨hx, _⟩ | ⟨_, hx⟩
    · omega
    · omega
    · omega
    · exact hx
  obtain ⟨a1, er1, a2, er2, o1, o2, o3⟩ := hx
  -- what any head comes to
  have all : ∀ n' s' a', Seg.headOK n' s' a' → p = hdP n' s' a' → x2 = 0 ∧ x3 = n' ∧ x4 = s' ∧ x5 = a' := by
    rintro n' s' a' ⟨h1, h2⟩ he
    unfold ctxOK at h2
    have hd0 : p.drop (4 : Int).toNat = leb n'.toNat ++ (leb s'.toNat ++ leb a'.toNat) := by rw [he]; rfl
    obtain ⟨g1, g2, g3⟩ := o1.good rfl (by omega) n'.toNat _ hd0 (by omega)
    have hd1 := drop_more (l := p) (a := 4) (by omega) hd0
    rw [← g1] at hd1
    obtain ⟨k1, k2, k3⟩ := o2.good g2 (by omega) s'.toNat (leb a'.toNat) hd1 (by omega)
    have hd2 := drop_more (l := p) (a := a1) (by omega) hd1
    rw [← k1] at hd2
    obtain ⟨j1, j2, j3⟩ := o3.good k2 (by omega) a'.toNat [] (by rw [hd2, List.append_nil]) (by omega)
    exact ⟨j2, by omega, by omega, by omega⟩
  have n0 := o1.n0; have n1 := o1.n1
  have s0 := o2.n0; have s1 := o2.n1
  have a0 := o3.n0; have a1' := o3.n1
  refine ⟨fun b => b = true ↔ ¬ ∃ n s a, Seg.headOK n s a ∧ p = hdP n s a, fun _ => 0, ?_, ?_⟩
  · have bad : (∀ n s a, Seg.headOK n s a → p = hdP n s a → False) → (true = true ↔ ¬ ∃ n s a, Seg.headOK n s a ∧ p = hdP n s a) := fun hh =>
      ⟨fun _ ⟨n, s, a, h1, h2⟩ => hh n s a h1 h2, fun _ => rfl⟩
    refine ifB_intro (fun h4 => ⟨rfl, bad fun n s a h1 h2 => ?_⟩) (fun h4 => ifB_intro (fun h5 => ⟨rfl, bad fun n s a h1 h2 => ?_⟩) (fun h5 => ?_))
    · have := (all n s a h1 h2).1; simp at h4; omega
    · have := all n s a h1 h2; have := h1.1; simp at h5; omega
    simp at h4 h5
    rw [i64_id n0 (by omega)]
    refine Cl.of (rmay_fn x3) ⟨_, rfl, ifB_intro (fun h6 => ⟨rfl, bad fun n s a h1 h2 => ?_⟩) (fun h6 => ifB_intro (fun h7 => ⟨rfl, bad fun n s a h1 h2 => ?_⟩) (fun h7 => ifB_intro (fun h8 => ⟨rfl, bad fun n s a h1 h2 => ?_⟩) (fun h8 => ?_)))⟩
    · have := all n s a h1 h2; have := h1.1; simp at h6; omega
    · have := all n s a h1 h2; have := h1.2.2.1; simp at h7; omega
    · have := all n s a h1 h2; have := h1.2.2.2.2; simp at h8; omega
    simp at h6 h7 h8
    have hcx : ctxOK x4 x5 := ⟨s0, h7, a0, h8⟩
    rw [i64_id s0 (by omega), i64_id a0 (by omega)]
    refine Cl.of (rhead_fn x3 x4 x5 [] (by omega) hcx) ⟨_, rfl, ?_⟩
    have hhl := hdP_len (n := x3) (s := x4) (a := x5) (by omega) (by omega) (by omega)
    have hf1 : Byts (fr 1 (hdP x3 x4 x5)) := fr_byts (by omega) (by omega) (byts_hdP _ _ _)
    refine ⟨isBytes_bR hf1, Cl.of (rput_fn 1 p (by omega) hb hl) ⟨_, rfl, ?_⟩⟩
    have hf2 : Byts (fr 1 p) := by
      refine sealB_byts ?_
      intro y hy
      simp only [List.mem_cons] at hy
      rcases hy with rfl | rfl | rfl | hy
      · omega
      · omega
      · omega
      · exact hb y hy
    refine ⟨isBytes_bR hf2, rfl, ?_⟩
    rw [bstr_sne hf1 hf2]
    by_cases he : p = hdP x3 x4 x5
    · have : ∃ n s a, Seg.headOK n s a ∧ p = hdP n s a := ⟨_, _, _, ⟨⟨by omega, by omega⟩, hcx⟩, he⟩
      simp [← he, this]
    · have h9 : ¬ ∃ n s a, Seg.headOK n s a ∧ p = hdP n s a := by
        rintro ⟨n, s, a, h1, h2⟩
        obtain ⟨_, e1, e2, e3⟩ := all n s a h1 h2
        exact he (by rw [h2, e1, e2, e3])
      have h10 : fr 1 (hdP x3 x4 x5) ≠ fr 1 p := fun e => he (by have := fr_inj (t := []) (t' := []) (by simpa using e); exact this.2.1.symm)
      simp [h9, h10]
  · rintro b hbb
    by_cases he : ∃ n s a, Seg.headOK n s a ∧ p = hdP n s a
    · have hbf : b = false := by
        cases b
        · rfl
        · exact absurd he (hbb.1 rfl)
      subst hbf
      obtain ⟨n, s, a, h1, h2⟩ := he
      obtain ⟨_, e1, e2, e3⟩ := all n s a h1 h2
      have h1' := h1
      unfold Seg.headOK ctxOK at h1'
      refine .inl ⟨n, s, a, h1, h2, ?_⟩
      rw [i64_id n0 (by omega), i64_id s0 (by omega), i64_id a0 (by omega), e1, e2, e3]
    · have hbt := hbb.2 he
      subst hbt
      exact no fun n s a h1 h2 => he ⟨n, s, a, h1, h2⟩
end Go.Proofs.YtbocfphenkidnaaGreatDoor.Sgr

namespace Go.Proofs.YtbocfphenkidnaaGreatDoor.Sgr
open Go Go.Px Go.Proofs Go.Proofs.YtbocfphenkidnaaGreatDoor.Cod Go.Proofs.YtbocfphenkidnaaGreatDoor.Seg
set_option maxRecDepth 100000
set_option linter.unusedVariables false

/-- What the end of a reading says. -/
theorem tail_ok {Q : List SV → Prop} {b : Bool} {x x1 x2 x3 x4 x6 x7 : Int} {l l1 l2 : List (List SV)} (h7 : x7 = 0 → b = false ∨ b = true)
    (h : Q [SV.agg [I x, I x1, I x2, SL 1 l, SL 7 l1, I x3, I x4, SL 1 l2, I (if x7 = 0 then 3 else endW x7 b), I x6]]) :
    (ifB (bpick (ieq x7 1) b false) (ifB (bpick (bnot b) (bpick (ieq x7 1) true (ieq x7 2)) false) (Q ([SV.agg [I x, I x1, I x2, SL 1 l, SL 7 l1, I x3, I x4, SL 1 l2, I x7, I x6]])) (Q ([SV.agg [I x, I x1, I x2, SL 1 l, SL 7 l1, I x3, I x4, SL 1 l2, I 4, I x6]]))) (ifB (bpick (bnot b) (bpick (ieq x7 1) true (ieq x7 2)) false) (Q ([SV.agg [I x, I x1, I x2, SL 1 l, SL 7 l1, I x3, I x4, SL 1 l2, I x7, I x6]])) (Q ([SV.agg [I x, I x1, I x2, SL 1 l, SL 7 l1, I x3, I x4, SL 1 l2, I 3, I x6]])))) := by
  by_cases e1 : x7 = 1
  · subst e1
    cases b
    · have : endW 1 false = 1 := rfl
      simpa [ifB, bpick, bnot, this] using h
    · have : endW 1 true = 4 := rfl
      simpa [ifB, bpick, bnot, this] using h
  · by_cases e2 : x7 = 2
    · subst e2
      cases b
      · have : endW 2 false = 2 := rfl
        simpa [ifB, bpick, bnot, this] using h
      · have : endW 2 true = 3 := rfl
        simpa [ifB, bpick, bnot, this] using h
    · have e3 : (if x7 = 0 then (3 : Int) else endW x7 b) = 3 := by
        split
        · rfl
        · simp [endW, e1, e2]
      rw [e3] at h
      cases b <;> simpa [ifB, bpick, bnot, e1, e2] using h

abbrev QR (l : List Int) (r : List SV) : Prop := ∃ d st, r = [scanS d st (segL d).length] ∧ RdO l d st

theorem rread_fn (l : List Int) (hb : Byts l) (hl : l.length ≤ 100000) : Ct Tryz.prog 24 {} [SL 1 (bR l)] (fun r => ∃ d st, r = [scanS d st (segL d).length] ∧ RdO l d st) := by
  refine rread_nf _ _ ⟨fun b x x1 x2 q q1 x3 x4 q2 x5 x6 => ∃ d : Sc, SV.agg [I x, I x1, I x2, SL 1 q, SL 7 q1, I x3, I x4, SL 1 q2, I x5, I x6, B b] = d.sv 0 (segL d).length ∧ ScOK d ∧ segL d <+: l,
    fun _ _ _ _ _ _ _ _ _ _ x6 => (l.length - x6).toNat, ⟨sc0, rfl, ⟨fun _ => rfl, fun h => absurd rfl h, fun h => absurd rfl h, fun h => absurd rfl h⟩, List.nil_prefix⟩, ?_⟩
  rintro b x x1 x2 q q1 x3 x4 q2 x5 x6 ⟨d, hd, hok, hpre⟩
  simp only [Sc.sv, SV.agg.injEq, List.cons.injEq, SV.val.injEq, Value.int.injEq, Value.bool.injEq, SV.slice.injEq, true_and, and_true] at hd
  obtain ⟨rfl, rfl, rfl, rfl, rfl, rfl, rfl, rfl, rfl, rfl, rfl⟩ := hd
  obtain ⟨t, ht⟩ := hpre
  have hlt : (segL d).length + t.length = l.length := by rw [← ht]; simp
  have hev : 7 * d.ev.length ≤ (segL d).length := by
    by_cases hn : d.num = 0
    · rw [hok.zero hn]; simp [sc0]
    · have := recL_len d.ev d.bs d.ba []
      simp only [segL, if_neg hn, List.length_append]; omega
  have hdt : l.drop (segL d).length = t := by rw [← ht]; simp
  have hnx : nextF l (segL d).length = nextR t := by
    unfold nextF
    rw [if_neg (by omega), Int.toNat_natCast, hdt]
  have hbt : Byts t := hb.sub fun x hx => by rw [← ht]; exact List.mem_append.2 (.inr hx)
  have hrl : rlen (bR l) = l.length := by simp [rlen]
  refine Cl.of (rnext_fn l _ hb (by omega)) ?_
  rw [hnx]
  obtain ⟨w, k, p, n, hw⟩ : ∃ w k p n, nextR t = (w, k, p, n) := ⟨_, _, _, _, rfl⟩
  rw [hw]
  refine ⟨w, k, bR p, n, rfl, ?_⟩
  by_cases hc : w = 0
  rotate_left
  · have hend : RdO l d (endW w d.sl) := ⟨hok, ⟨t, ht⟩, .inl ⟨w, k, p, n, hc, by rw [hdt]; exact hw, rfl⟩⟩
    refine ifB_intro (fun h => by simp [hc] at h) (fun _ => tail_ok (Q := QR l) (fun e => absurd e hc) ?_)
    rw [if_neg hc]
    exact ⟨d, _, rfl, hend⟩
  subst hc
  obtain ⟨hk, hp, hn, t', ht'⟩ := nextR_whole hbt hw
  have hbp : Byts p := hbt.sub fun x hx => by
    rw [ht', fr_cons]
    simp [hx]
  have num1 : d.num ≠ 0 → 1 ≤ d.num := fun h => (hok.head h).1.1
  have stop : TakeO d k p false d → QR l ([SV.agg [I d.num, I d.bs, I d.ba, SL 1 [], SL 7 (evR d.ev), I d.s, I d.a, SL 1 (nR d.m), I (if (0 : Int) = 0 then 3 else endW 0 d.sl), I ((segL d).length : Int)]] : List SV) := fun tk =>
    ⟨d, 3, rfl, hok, ⟨t, ht⟩, .inr ⟨k, p, n, by rw [hdt]; exact hw, tk, rfl⟩⟩
  -- a frame that is taken
  have go : ∀ d', TakeO d k p true d' → wadd IntKind.i64 ((segL d).length : Int) n = (segL d').length ∧ ScOK d' ∧ segL d' <+: l ∧ (l.length - ((segL d').length : Int)).toNat < (l.length - ((segL d).length : Int)).toNat := by
    intro d' tk
    obtain ⟨g1, g2, g3⟩ := tk.ok hok rfl
    have hfl : (fr k p).length = p.length + 7 := fr_len _ _
    have hll : (segL d').length = (segL d).length + (p.length + 7) := by rw [g2, List.length_append, hfl]
    have hle : (segL d').length ≤ l.length := by rw [hll]; have := congrArg List.length ht'; simp [fr_len] at this; omega
    have wn : wadd IntKind.i64 ((segL d).length : Int) n = (segL d').length := by
      rw [wadd_i64 (by omega) (by omega), hll, hn]; omega
    refine ⟨wn, g1, ⟨t', ?_⟩, by omega⟩
    rw [g2, ← ht, ht']; simp
  refine ifB_intro (fun hs => ?_) (fun hs => ?_)
  rotate_left
  · have hs' : d.sl = true := by simpa using hs
    exact tail_ok (Q := QR l) (fun _ => .inr hs') (stop (.no (fun e => by rw [hs'] at e; cases e) (fun e => by rw [hs'] at e; cases e) (fun e => by rw [hs'] at e; cases e)))
  have hs' : d.sl = false := by simpa using hs
  refine ifB_intro (fun h1 => ?_) (fun h1 => ifB_intro (fun h2 => ?_) (fun h2 => ifB_intro (fun h3 => ?_) (fun h3 => ?_)))
  · obtain ⟨hn0, hk1⟩ : d.num = 0 ∧ k = 1 := by
      by_cases e : d.num = 0
      · exact ⟨e, by simpa [e] using h1⟩
      · simp [e] at h1
    refine Cl.ofQ (rhd_fn p hbp (by omega)) ?_
    rintro r (⟨n', s', a', ok, hpe, rfl⟩ | ⟨hno, rfl⟩)
    · have ok1 := ok.1
      refine ⟨_, _, _, _, rfl, ifB_intro (fun _ => ?_) (fun h => by simp at h; omega)⟩
      have hz := hok.zero hn0
      have tk : TakeO d k p true { d with num := n', bs := s', ba := a', s := s', a := a', m := [] } := .head n' s' a' hs' hn0 hk1 ok hpe
      obtain ⟨wn, g1, g2, g3⟩ := go _ tk
      have hsz : (segL { d with num := n', bs := s', ba := a', s := s', a := a', m := [] }).length = n := by
        have h0 : (segL d).length = 0 := by rw [hz]; rfl
        rw [h0] at wn
        have hn7 : 0 ≤ n := by omega
        rw [wadd_i64 (by omega) (by omega)] at wn
        omega
      refine ⟨rfl, ⟨_, ?_, g1, g2⟩, ?_⟩
      · rw [← hsz]; rw [hz]; rfl
      · exact mlt (by dsimp only; rw [← hsz]; exact g3)
    · refine ⟨_, _, _, _, rfl, ifB_intro (fun h => by simp at h) (fun _ => tail_ok (Q := QR l) (fun _ => .inl hs') (stop (.no (fun _ _ _ => hno) (fun _ h => absurd hn0 h) (fun _ h => absurd hn0 h))))⟩
  · obtain ⟨hn0, hk2⟩ : d.num ≠ 0 ∧ k = 2 := by
      by_cases e : 0 < d.num
      · exact ⟨by omega, by simpa [e] using h2⟩
      · simp [e] at h2
    have hcx := hok.ctx hn0
    have hml : d.m.length ≤ 1000000 := by
      have h1 := okL_right d.ev d.bs d.ba [] (ctx_nil.2 (hok.head hn0).2) (hok.evs hn0)
      rw [← hok.fin hn0] at h1
      have h2 : d.m.length ≤ 32 := (rgtB_iff.1 (ctxB_iff.1 h1).2).1
      omega
    refine Cl.ofQ (rdecode_fn d.s d.a d.m p (by omega) hbp hml) ?_
    rintro r (⟨hc1, rfl⟩ | ⟨hc1, ⟨e, he1, he2, rfl⟩ | ⟨he1, rfl⟩⟩)
    · refine ⟨_, _, _, _, _, _, _, _, _, _, _, rfl, ifB_intro (fun h => by simp at h) (fun _ => tail_ok (Q := QR l) (fun _ => .inl hs') (stop (.no (fun _ h => absurd h hn0) (fun _ _ _ e he => ?_) (fun _ _ h => by omega))))⟩
      rw [he.ctx] at hc1; cases hc1
    · have tk : TakeO d k p true { d with ev := d.ev ++ [e], s := e.s, a := e.a, m := bhdN d.m e.c } := .record e hs' hn0 hk2 he1 he2
      obtain ⟨wn, g1, g2, g3⟩ := go _ tk
      refine ⟨_, _, _, _, _, _, _, _, _, _, _, rfl, ifB_intro (fun _ => ⟨by simp [lsum, rlen]; omega, rfl, ⟨_, ?_, g1, g2⟩, ?_⟩) (fun h => by simp at h)⟩
      · rw [wn, ev_row]
      · exact mlt (by dsimp only; rw [wn]; exact g3)
    · exact ⟨_, _, _, _, _, _, _, _, _, _, _, rfl, ifB_intro (fun h => by simp at h) (fun _ => tail_ok (Q := QR l) (fun _ => .inl hs') (stop (.no (fun _ h => absurd h hn0) (fun _ _ _ => he1) (fun _ _ h => by omega))))⟩
  · obtain ⟨hn0, hk3⟩ : d.num ≠ 0 ∧ k = 3 := by
      by_cases e : 0 < d.num
      · exact ⟨by omega, by simpa [e] using h3⟩
      · simp [e] at h3
    have hcx := hok.ctx hn0
    have hle : (segL d).length + (p.length + 7) ≤ l.length := by have := congrArg List.length ht'; simp [fr_len] at this; omega
    have wn : wadd IntKind.i64 ((segL d).length : Int) n = (segL d).length + n := wadd_i64 (by omega) (by omega)
    have hsub : rsub (bR l) ((segL d).length : Int) (((segL d).length : Int) + n) = bR (fr k p) := by
      rw [rsub_bR]
      congr 1
      rw [show (((segL d).length : Int) + n).toNat = (segL d).length + (p.length + 7) by omega, Int.toNat_natCast, ← ht, ht', ← fr_len k p]
      rw [List.take_append, List.take_of_length_le (by omega)]
      simp
    have hre : rlen (evR d.ev) = d.ev.length := by simp [rlen]
    have hfb : Byts (fr k p) := fr_byts (by omega) (by omega) hbp
    rw [wn, hsub, hre]
    refine ⟨⟨by omega, by omega, by rw [hrl]; omega⟩, isBytes_bR hfb, Cl.of (rsl_fn d.ev.length d.s d.a _ (by omega) hcx) ⟨_, rfl, ?_⟩⟩
    have hsb : Byts (fr 3 (slP d.ev.length d.s d.a)) := fr_byts (by omega) (by have := slP_len hok hn0; omega) (slP_byts _ _ _)
    refine ⟨isBytes_bR hsb, ?_⟩
    rw [bstr_seq hsb hfb]
    by_cases hpe : p = slP d.ev.length d.s d.a
    · have tk : TakeO d k p true { d with sl := true } := .last hs' hn0 hk3 hpe
      obtain ⟨wn', g1, g2, g3⟩ := go _ tk
      rw [wn] at wn'
      refine ifB_intro (fun _ => ⟨rfl, ⟨_, ?_, g1, g2⟩, ?_⟩) (fun h => ?_)
      · rw [wn']
      · exact mlt (by dsimp only; rw [wn']; exact g3)
      · simp [hk3, hpe] at h
    · refine ifB_intro (fun h => ?_) (fun _ => tail_ok (Q := QR l) (fun _ => .inl hs') (stop (.no (fun _ h => absurd h hn0) (fun _ _ h => by omega) (fun _ _ _ => hpe))))
      simp at h
      exact absurd (fr_inj (t := []) (t' := []) (by simpa using h)).2.1.symm hpe
  · refine tail_ok (Q := QR l) (fun _ => .inl hs') (stop (.no (fun _ e1 e2 => ?_) (fun _ e1 e2 => ?_) (fun _ e1 e2 => ?_)))
    · simp [e1, e2] at h1
    · have := num1 e1
      have : 0 < d.num := by omega
      simp [this, e2] at h2
    · have := num1 e1
      have : 0 < d.num := by omega
      simp [this, e2] at h3

theorem RdO.eq {l : List Int} {d t : Sc} {st st' : Int} (h : RdO l d st) (k : RdO l t st') : d = t ∧ st = st' := by
  have h1 := h.far k.ok k.pre
  have h2 := k.far h.ok h.pre
  obtain ⟨l1, e1⟩ := h1.len k.ok h.ok
  obtain ⟨l2, e2⟩ := h2.len h.ok k.ok
  have e : t = d := e1 (by omega)
  subst e
  refine ⟨rfl, ?_⟩
  rcases h.ext with ⟨w, k1, p, n, hw, e, hst⟩ | ⟨k1, p, n, e, tk, hst⟩ <;> rcases k.ext with ⟨w', k1', p', n', hw', e', hst'⟩ | ⟨k1', p', n', e', tk', hst'⟩
  · rw [e] at e'; simp only [Prod.mk.injEq] at e'; rw [hst, hst', e'.1]
  · rw [e] at e'; simp only [Prod.mk.injEq] at e'; exact absurd e'.1 hw
  · rw [e] at e'; simp only [Prod.mk.injEq] at e'; exact absurd e'.1.symm hw'
  · rw [hst, hst']

theorem rscan_fn (d : Sc) (st sz : Int) (h1 : d.m.length ≤ 1000000) (h2 : d.ev.length ≤ 1000000) : Ct Tryz.prog 22 {} [scanS d st sz, scanS d st sz] (fun r => r = [B true]) := by
  refine Sgr.rsame_nf _ _ _ _ _ _ _ _ _ _ _ _ _ _ _ _ _ _ _ _ _ (ifB_intro (fun _ => ?_) (fun h => by simp at h))
  refine Cl.of (csame_fn d.bs d.ba [] d.bs d.ba [] (by simp)) ⟨_, rfl, ifB_intro (fun _ => ?_) (fun h => by simp at h)⟩
  refine Cl.of (csame_fn d.s d.a d.m d.s d.a d.m h1) ⟨_, rfl, ifB_intro (fun _ => ?_) (fun h => by simp at h)⟩
  exact Cl.of (esame_fn d.ev h2) ⟨_, rfl, rfl⟩
end Go.Proofs.YtbocfphenkidnaaGreatDoor.Sgr

namespace Go.Proofs.YtbocfphenkidnaaGreatDoor.Sgr
open Go Go.Px Go.Proofs Go.Proofs.YtbocfphenkidnaaGreatDoor.Cod Go.Proofs.YtbocfphenkidnaaGreatDoor.Seg
set_option maxRecDepth 100000
set_option linter.unusedVariables false

theorem law3_nf (num : Int) (cs ca : Int) (ns : List (List SV)) (rows : List (List SV)) (many : Int) (sealed : Bool) (bs : List (List SV)) (Q : List SV → Prop) (h : Cl Tryz.prog 7 sP [] (fun (rs : List SV) => ∃ b : Bool, (rs = [B b]) ∧ (ifB (bnot b) (Q [B false]) (Cl Tryz.prog 8 sP ([SV.agg [I cs, I ca, SL 1 ns], SL 7 rows]) (fun (rs1 : List SV) => ∃ b1 : Bool, (rs1 = [B b1]) ∧ (ifB (bpick (bnot b1) true (igt (rlen bs) 3000)) (Q [B true]) (Cl Tryz.prog 9 sP ([SV.agg [I cs, I ca, SL 1 ns]]) (fun (rs2 : List SV) => ∃ b2 : Bool, (rs2 = [B b2]) ∧ (Cl Tryz.prog 10 sP [I num] (fun (rs3 : List SV) => ∃ b3 : Bool, (rs3 = [B b3]) ∧ (∃ Inv : ByteArray → Prop, ∃ m : ByteArray → Nat, (ifB b3 (Cl Tryz.prog 11 sP [I num] (fun (rs4 : List SV) => ∃ s : ByteArray, (rs4 = [S s]) ∧ ((Option.some ([[I cs, I ca, SL 1 ns]]) = Option.some ([[I cs, I ca, SL 1 ns]])) ∧ (Inv s)))) ((Option.some ([[I cs, I ca, SL 1 ns]]) = Option.some ([[I cs, I ca, SL 1 ns]])) ∧ (Inv (ByteArray.mk (Array.mk []))))) ∧ (∀ s : ByteArray, (Inv s) → Cl Tryz.prog 12 (Sig.mk [] [Md.own, Md.pure]) ([I num, SV.agg [I cs, I ca, SL 1 ns]]) (fun (rs4 : List SV) => ∃ l : List (List SV), ∃ x : Int, (rs4 = [SL 1 l, I x]) ∧ (∃ Inv1 : Prop, ∃ m1 : Nat, (ifB (bpick (bpick b3 b2 false) (ieq (rlen ns) 0) false) (∃ Inv2 : Bool → Prop, ∃ m2 : Bool → Nat, (ifB (ine x 0) ((Option.some ([[I cs, I ca, SL 1 ns]]) = Option.some ([[I cs, I ca, SL 1 ns]])) ∧ (Inv2 true)) ((isBytes l) ∧ (Cl Tryz.prog 13 sO ([I num, SV.agg [I cs, I ca, SL 1 ns]]) (fun (rs5 : List SV) => ∃ l1 : List (List SV), (rs5 = [SL 1 l1]) ∧ ((isBytes l1) ∧ ((Option.some ([[I cs, I ca, SL 1 ns]]) = Option.some ([[I cs, I ca, SL 1 ns]])) ∧ (Inv2 (sne (bstr l) (bstr l1))))))))) ∧ (∀ b4 : Bool, (Inv2 b4) → ifB b4 (Q [B false]) ((Option.some ([[I cs, I ca, SL 1 ns]]) = Option.some ([[I cs, I ca, SL 1 ns]])) ∧ Inv1))) (ifB (bpick (ine x 1) true (ine (rlen l) 0)) (Q [B false]) ((Option.some ([[I cs, I ca, SL 1 ns]]) = Option.some ([[I cs, I ca, SL 1 ns]])) ∧ Inv1))) ∧ (Inv1 → Cl Tryz.prog 14 sP ([I many, SV.agg [I cs, I ca, SL 1 ns]]) (fun (rs5 : List SV) => ∃ l1 : List (List SV), ∃ x1 : Int, (rs5 = [SL 1 l1, I x1]) ∧ (∃ Inv2 : Prop, ∃ m2 : Nat, (ifB (bpick b2 (ige many 0) false) (∃ Inv3 : Bool → Prop, ∃ m3 : Bool → Nat, (ifB (ine x1 0) ((Option.some ([[I cs, I ca, SL 1 ns]]) = Option.some ([[I cs, I ca, SL 1 ns]])) ∧ (Inv3 true)) ((isBytes l1) ∧ (Cl Tryz.prog 15 sO ([I many, SV.agg [I cs, I ca, SL 1 ns]]) (fun (rs6 : List SV) => ∃ l2 : List (List SV), (rs6 = [SL 1 l2]) ∧ ((isBytes l2) ∧ ((Option.some ([[I cs, I ca, SL 1 ns]]) = Option.some ([[I cs, I ca, SL 1 ns]])) ∧ (Inv3 (sne (bstr l1) (bstr l2))))))))) ∧ (∀ b4 : Bool, (Inv3 b4) → ifB b4 (Q [B false]) ((Option.some ([[I cs, I ca, SL 1 ns]]) = Option.some ([[I cs, I ca, SL 1 ns]])) ∧ Inv2))) (ifB (bpick (ine x1 1) true (ine (rlen l1) 0)) (Q [B false]) ((Option.some ([[I cs, I ca, SL 1 ns]]) = Option.some ([[I cs, I ca, SL 1 ns]])) ∧ Inv2))) ∧ (Inv2 → ∃ Inv3 : Prop, ∃ m3 : Nat, (ifB (igt (rlen rows) 0) (∃ Inv4 : (List (List SV)) → Int → Int → Int → (List (List SV)) → Prop, ∃ m4 : (List (List SV)) → Int → Int → Int → (List (List SV)) → Nat, ((((0 : Int) ≤ 0) ∧ (0 < (rlen rows))) ∧ (∃ x2 : Int, ∃ x3 : Int, ∃ x4 : Int, ∃ s1 : ByteArray, ∃ x5 : Int, ∃ x6 : Int, ∃ x7 : Int, (rget rows 0 = [I x2, I x3, I x4, S s1, I x5, I x6, I x7]) ∧ ((Cl Tryz.prog 16 sP ([SV.agg [I cs, I ca, SL 1 ns], SV.agg [I x2, I x3, I x4, S s1, I x5, I x6, I x7]]) (fun (rs6 : List SV) => ∃ l2 : List (List SV), ∃ x8 : Int, ∃ x9 : Int, ∃ l3 : List (List SV), ∃ x10 : Int, (rs6 = [SL 1 l2, SV.agg [I x8, I x9, SL 1 l3], I x10]) ∧ ((Option.some ([[I cs, I ca, SL 1 ns]]) = Option.some ([[I cs, I ca, SL 1 ns]])) ∧ (Inv4 l2 x10 x8 x9 l3)))) ∧ (Cl Tryz.prog 16 sP ([SV.agg [I cs, I ca, SL 1 ns], SV.agg [I x2, I x3, I x4, S s1, I x5, I x6, I x7]]) (fun (rs6 : List SV) => ∃ l2 : List (List SV), ∃ x8 : Int, ∃ x9 : Int, ∃ l3 : List (List SV), ∃ x10 : Int, (rs6 = [SL 1 l2, SV.agg [I x8, I x9, SL 1 l3], I x10]) ∧ ((Option.some ([[I cs, I ca, SL 1 ns]]) = Option.some ([[I cs, I ca, SL 1 ns]])) ∧ (Inv4 l2 x10 x8 x9 l3))))))) ∧ (∀ l2 : List (List SV), ∀ x2 : Int, ∀ x3 : Int, ∀ x4 : Int, ∀ l3 : List (List SV), (Inv4 l2 x2 x3 x4 l3) → ∃ Inv5 : (List (List SV)) → Int → Int → Int → (List (List SV)) → Prop, ∃ m5 : (List (List SV)) → Int → Int → Int → (List (List SV)) → Nat, ((((0 : Int) ≤ 0) ∧ (0 < (rlen rows))) ∧ (∃ x5 : Int, ∃ x6 : Int, ∃ x7 : Int, ∃ s1 : ByteArray, ∃ x8 : Int, ∃ x9 : Int, ∃ x10 : Int, (rget rows 0 = [I x5, I x6, I x7, S s1, I x8, I x9, I x10]) ∧ ((Cl Tryz.prog 17 sP ([SV.agg [I cs, I ca, SL 1 ns], SV.agg [I x5, I x6, I x7, S s1, I x8, I x9, I x10]]) (fun (rs6 : List SV) => ∃ l4 : List (List SV), ∃ x11 : Int, ∃ x12 : Int, ∃ l5 : List (List SV), ∃ x13 : Int, (rs6 = [SL 1 l4, SV.agg [I x11, I x12, SL 1 l5], I x13]) ∧ ((Option.some ([[I cs, I ca, SL 1 ns], [I x3, I x4, SL 1 l3]]) = Option.some ([[I cs, I ca, SL 1 ns], [I x3, I x4, SL 1 l3]])) ∧ (Inv5 l4 x13 x11 x12 l5)))) ∧ (Cl Tryz.prog 17 sP ([SV.agg [I cs, I ca, SL 1 ns], SV.agg [I x5, I x6, I x7, S s1, I x8, I x9, I x10]]) (fun (rs6 : List SV) => ∃ l4 : List (List SV), ∃ x11 : Int, ∃ x12 : Int, ∃ l5 : List (List SV), ∃ x13 : Int, (rs6 = [SL 1 l4, SV.agg [I x11, I x12, SL 1 l5], I x13]) ∧ ((Option.some ([[I cs, I ca, SL 1 ns], [I x3, I x4, SL 1 l3]]) = Option.some ([[I cs, I ca, SL 1 ns], [I x3, I x4, SL 1 l3]])) ∧ (Inv5 l4 x13 x11 x12 l5))))))) ∧ (∀ l4 : List (List SV), ∀ x5 : Int, ∀ x6 : Int, ∀ x7 : Int, ∀ l5 : List (List SV), (Inv5 l4 x5 x6 x7 l5) → (isBytes l2) ∧ ((isBytes l4) ∧ (ifB (bpick (sne (bstr l2) (bstr l4)) true (ine x2 x5)) (Q [B false]) (Cl Tryz.prog 18 sP ([SV.agg [I x3, I x4, SL 1 l3], SV.agg [I x6, I x7, SL 1 l5]]) (fun (rs6 : List SV) => ∃ b4 : Bool, (rs6 = [B b4]) ∧ (ifB (bnot b4) (Q [B false]) ((Option.some ([[I cs, I ca, SL 1 ns]]) = Option.some ([[I cs, I ca, SL 1 ns]])) ∧ Inv3))))))))) ((Option.some ([[I cs, I ca, SL 1 ns]]) = Option.some ([[I cs, I ca, SL 1 ns]])) ∧ Inv3)) ∧ (Inv3 → Cl Tryz.prog 19 sP ([I num, SV.agg [I cs, I ca, SL 1 ns], SL 7 rows, B sealed]) (fun (rs6 : List SV) => ∃ l2 : List (List SV), ∃ x2 : Int, (rs6 = [SL 1 l2, I x2]) ∧ (Cl Tryz.prog 20 sP ([I num, SV.agg [I cs, I ca, SL 1 ns], SL 7 rows, B sealed]) (fun (rs7 : List SV) => ∃ l3 : List (List SV), ∃ x3 : Int, (rs7 = [SL 1 l3, I x3]) ∧ (Cl Tryz.prog 21 sP [I num] (fun (rs8 : List SV) => ∃ s1 : ByteArray, (rs8 = [S s1]) ∧ (ifB (seq s1 s) ((isBytes l2) ∧ ((isBytes l3) ∧ (ifB (bpick (seq (bstr l2) (bstr l3)) (ieq x2 x3) false) (Cl Tryz.prog 23 sP [SL 1 bs] (fun (rs9 : List SV) => ∃ x4 : Int, ∃ x5 : Int, ∃ x6 : Int, ∃ l4 : List (List SV), ∃ l5 : List (List SV), ∃ x7 : Int, ∃ x8 : Int, ∃ l6 : List (List SV), ∃ x9 : Int, ∃ x10 : Int, (rs9 = [SV.agg [I x4, I x5, I x6, SL 1 l4, SL 7 l5, I x7, I x8, SL 1 l6, I x9, I x10]]) ∧ (Cl Tryz.prog 24 sP [SL 1 bs] (fun (rs10 : List SV) => ∃ x11 : Int, ∃ x12 : Int, ∃ x13 : Int, ∃ l7 : List (List SV), ∃ l8 : List (List SV), ∃ x14 : Int, ∃ x15 : Int, ∃ l9 : List (List SV), ∃ x16 : Int, ∃ x17 : Int, (rs10 = [SV.agg [I x11, I x12, I x13, SL 1 l7, SL 7 l8, I x14, I x15, SL 1 l9, I x16, I x17]]) ∧ (Cl Tryz.prog 22 sP ([SV.agg [I x4, I x5, I x6, SL 1 l4, SL 7 l5, I x7, I x8, SL 1 l6, I x9, I x10], SV.agg [I x11, I x12, I x13, SL 1 l7, SL 7 l8, I x14, I x15, SL 1 l9, I x16, I x17]]) (fun (rs11 : List SV) => ∃ b4 : Bool, (rs11 = [B b4]) ∧ (Q [B b4]))))))) (Q [B false])))) (Q [B false])))))))))))))))))))))))))) : Ct Tryz.prog 3 {} [I num, cx3 cs ca ns, SL 7 rows, I many, B sealed, SL 1 bs] Q :=
  fn_of (f := 3) SgT SvT (fun k => bif Nat.beq k 4000041 then some { slots := [(15,false,[.str])], fixed := [896] } else bif Nat.beq k 1000011 then some { slots := [(70,false,[.bool])], fixed := [896] } else bif Nat.beq k 4000059 then some { fixed := [896] } else bif Nat.beq k 1000017 then some { slots := [(99,false,[.bool])], fixed := [896] } else bif Nat.beq k 4000088 then some { fixed := [896] } else bif Nat.beq k 1000022 then some { slots := [(18,false,[.sl 1]),(20,false,[.int .i64])], boxes := [(2432,[.int .i64,.int .i64,.sl 1])], fixed := [896], ptrs := [(19,2432)] } else bif Nat.beq k 1000023 then some { slots := [(21,false,[.sl 1]),(23,false,[.int .i64])], boxes := [(2816,[.int .i64,.int .i64,.sl 1])], fixed := [896, 2432], ptrs := [(22,2816)] } else bif Nat.beq k 4000109 then some { fixed := [896] } else none) Tryz.f3 Tryz.func3 (by kernel_rfl) (by kernel_rfl) h

end Go.Proofs.YtbocfphenkidnaaGreatDoor.Sgr

namespace Go.Proofs.YtbocfphenkidnaaGreatDoor.Sgr
open Go Go.Px Go.Proofs Go.Proofs.YtbocfphenkidnaaGreatDoor.Cod Go.Proofs.YtbocfphenkidnaaGreatDoor.Seg
set_option maxRecDepth 100000
set_option linter.unusedVariables false

theorem few2_fn (s a : Int) (m : List ByteArray) (l : List EvD) (hm : m.length ≤ 9223372036854775807) (hl : l.length ≤ 9223372036854775807) : Ct Tryz.prog 8 {} [cx3 s a (nR m), SL 7 (evR l)] (fun r => ∃ b, r = [B b] ∧ (b = true → m.length ≤ 60 ∧ l.length ≤ 60)) := by
  have hrl : rlen (evR l) = l.length := by simp [rlen]
  refine few_nf _ _ _ _ _ ⟨fun _ x => 0 ≤ x ∧ x ≤ l.length, fun _ x => (l.length - x).toNat, ⟨by omega, by omega⟩, ?_⟩
  rintro _ x ⟨h0, h1⟩
  rw [hrl]
  refine ifB_intro (fun h => ?_) (fun h => ?_)
  · simp at h
    have w : wadd IntKind.i64 x 1 = x + 1 := wadd_i64 (by omega) (by omega)
    have hlt : x.toNat < l.length := by omega
    have hg : rget (evR l) x = [I l[x.toNat].s, I l[x.toNat].a, I l[x.toNat].k, S l[x.toNat].c, I l[x.toNat].x, I l[x.toNat].y, I l[x.toNat].z] := by simp [rget, hlt]
    refine ⟨⟨h0, h⟩, _, _, _, _, _, _, _, hg, ?_⟩
    rw [w]
    exact ifB_intro (fun hb => ⟨_, rfl, fun e => by cases e⟩) (fun hb => ⟨rfl, ⟨by omega, by omega⟩, mlt (by dsimp only; omega)⟩)
  · refine Cl.ofQ (short_fn m hm) ?_
    rintro r ⟨b, rfl, hb⟩
    refine ⟨_, rfl, _, rfl, fun e => ?_⟩
    cases b
    · simp at e
    · simp at e
      exact ⟨hb rfl, by omega⟩

theorem addR_shape (s a : Int) (m : List ByteArray) (e : EvD) : ∃ (q : List Int) (s' a' : Int) (m' : List ByteArray) (n : Int), addR s a m e = [SL 1 (bR q), cx3 s' a' (nR m'), I n] ∧ Byts q ∧ (m.length ≤ 1000 → m'.length ≤ 1001) := by
  unfold addR
  by_cases h : encE s a m e = 0
  · rw [if_pos h]
    refine ⟨_, _, _, _, _, rfl, fr_byts (by omega) ?_ byts_enc, fun hm => ?_⟩
    · have := encL_len (encE_zero.1 h); omega
    · unfold bhdN; split
      · simp; omega
      · omega
  · rw [if_neg h]
    exact ⟨[], s, a, m, _, rfl, (fun x hx => by cases hx), fun hm => by omega⟩

theorem mkR_shape (n s a : Int) (m : List ByteArray) (l : List EvD) (sl : Bool) : ∃ (q : List Int) (k : Int), mkR n s a m l sl = [SL 1 (bR q), I k] ∧ Byts q := by
  unfold mkR
  by_cases h : mkE n s a m l = 0
  · rw [if_pos h]
    have hk := mkE_zero.1 h
    exact ⟨_, _, rfl, segL_byts (mkS_ok sl hk.1 hk.2.2)⟩
  · rw [if_neg h]
    exact ⟨[], _, rfl, fun x hx => by cases hx⟩

theorem law3_fn (n s a : Int) (m : List ByteArray) (l : List EvD) (many : Int) (sl : Bool) (b : List Int) (hm : m.length ≤ 9223372036854775807) (hl : l.length ≤ 9223372036854775807) (hmany : many ≤ 9223372036854775807) (hb : Byts b) :
    Ct Tryz.prog 3 {} [I n, cx3 s a (nR m), SL 7 (evR l), I many, B sl, SL 1 (bR b)] (fun r => r = [B true]) := by
  have hrb : rlen (bR b) = b.length := by simp [rlen]
  have hre : rlen (evR l) = l.length := by simp [rlen]
  have hrm : rlen (nR m) = m.length := by simp [rlen]
  refine Sgr.law3_nf _ _ _ _ _ _ _ _ _ (Cl.of awake_fn ⟨_, rfl, ifB_intro (fun h => by simp at h) (fun _ => ?_)⟩)
  refine Cl.ofQ (few2_fn s a m l hm hl) ?_
  rintro r ⟨fb, rfl, hfew⟩
  refine ⟨_, rfl, ifB_intro (fun _ => rfl) (fun h => ?_)⟩
  rw [hrb, bor_f] at h
  obtain ⟨hf, hb3⟩ := h
  have hfb : fb = true := by simpa using hf
  obtain ⟨hm60, hl60⟩ := hfew hfb
  have hb3' : b.length ≤ 3000 := by simp at hb3; omega
  refine Cl.of (crright_fn s a m (by omega)) ⟨_, rfl, Cl.of (rmay_fn n) ⟨_, rfl, ?_⟩⟩
  rw [hre, hrm]
  refine ⟨fun q => q = segNm n, fun _ => 0, ?_, ?_⟩
  · refine ifB_intro (fun h => ?_) (fun h => ?_)
    · simp at h
      exact Cl.of (rname_fn n h) ⟨_, rfl, rfl, rfl⟩
    · simp at h
      have : ¬ (1 ≤ n ∧ n ≤ 99999999) := by omega
      exact ⟨rfl, by simp [segNm, this]⟩
  rintro _ rfl
  refine Cl.of (shead_fn n s a m hm) ⟨_, _, rfl, ?_⟩
  refine ⟨True, 0, ?_, fun _ => ?_⟩
  · refine ifB_intro (fun h => ?_) (fun h => ?_)
    · have hh : (1 ≤ n ∧ n ≤ 99999999) ∧ ctxB s a m = true ∧ m = [] := by
        rcases m with _ | ⟨x, m⟩
        · simpa using h
        · simp at h
          omega
      obtain ⟨hn, hc, rfl⟩ := hh
      have hcx := ctx_nil.1 hc
      have he : headE n s a [] = (fr 1 (hdP n s a), 0) := by
        unfold headE
        rw [if_neg (by simp; exact hn), if_neg (by simp; exact hcx)]
      rw [he]
      have hhl := hdP_len (n := n) (s := s) (a := a) (by omega) hcx.2.1 hcx.2.2.2
      have hf1 : Byts (fr 1 (hdP n s a)) := fr_byts (by omega) (by omega) (byts_hdP _ _ _)
      refine ⟨fun q => q = false, fun _ => 0, ?_, ?_⟩
      · refine ifB_intro (fun h => by simp at h) (fun _ => ?_)
        refine ⟨isBytes_bR hf1, Cl.of (rhead_fn n s a _ (by omega) hcx) ⟨_, rfl, isBytes_bR hf1, rfl, ?_⟩⟩
        rw [bstr_sne hf1 hf1]; simp
      · rintro _ rfl
        exact ifB_intro (fun h => by simp at h) (fun _ => ⟨rfl, trivial⟩)
    · have hh : ¬ ((1 ≤ n ∧ n ≤ 99999999) ∧ ctxOK s a ∧ m = []) := by
        rintro ⟨h1, h2, rfl⟩
        rw [ctx_nil.2 h2] at h
        simp [h1] at h
      have he : headE n s a m = ([], 1) := by
        unfold headE
        split
        · rfl
        · rename_i h1
          rw [if_pos fun h2 => hh ⟨by omega, h2⟩]
      rw [he]
      exact ifB_intro (fun h => by simp [rlen] at h) (fun _ => ⟨rfl, trivial⟩)
  refine Cl.of (sseal2_fn many s a m hmany) ?_
  by_cases hs : ctxB s a m = true ∧ 0 ≤ many
  all_goals first | rw [if_pos hs] | rw [if_neg hs]
  all_goals refine ⟨_, _, rfl, True, 0, ?_, fun _ => ?_⟩
  · refine ifB_intro (fun h => ?_) (fun h => by simp [hs.1, hs.2] at h)
    have hcx := (ctxB_iff.1 hs.1).1
    have b1 : (leb many.toNat).length ≤ 10 := leb_small (by omega)
    have b2 : (leb s.toNat).length ≤ 10 := leb_small (by omega)
    have b3 : (leb a.toNat).length ≤ 10 := leb_small (by omega)
    have hf1 : Byts (fr 3 (slP many s a)) := fr_byts (by omega) (by simp [slP]; omega) (slP_byts _ _ _)
    refine ⟨fun q => q = false, fun _ => 0, ?_, ?_⟩
    · refine ifB_intro (fun h => by simp at h) (fun _ => ?_)
      refine ⟨isBytes_bR hf1, Cl.of (rsl_fn many s a _ (by omega) hcx) ⟨_, rfl, isBytes_bR hf1, rfl, ?_⟩⟩
      rw [bstr_sne hf1 hf1]; simp
    · rintro _ rfl
      exact ifB_intro (fun h => by simp at h) (fun _ => ⟨rfl, trivial⟩)
  rotate_left
  · refine ifB_intro (fun h => ?_) (fun h => ?_)
    · exfalso
      apply hs
      simpa using h
    · exact ifB_intro (fun h => by simp [rlen] at h) (fun _ => ⟨rfl, trivial⟩)
  all_goals
    refine ⟨True, 0, ifB_intro (fun h => ?_) (fun h => ⟨rfl, trivial⟩), fun _ => ?_⟩
    · simp at h
      have hlt : 0 < l.length := by omega
      have hg : rget (evR l) 0 = [I l[0].s, I l[0].a, I l[0].k, S l[0].c, I l[0].x, I l[0].y, I l[0].z] := by simp [rget, hlt]
      obtain ⟨q, s', a', m', k, hq, hqb, hqm⟩ := addR_shape s a m l[0]
      refine ⟨fun l2 x2 x3 x4 l3 => l2 = bR q ∧ k = x2 ∧ s' = x3 ∧ a' = x4 ∧ l3 = nR m', fun _ _ _ _ _ => 0, ⟨⟨by omega, by omega⟩, _, _, _, _, _, _, _, hg, ?_, ?_⟩, ?_⟩
      · refine Cl.of (sadd2_fn s a m l[0]) ?_
        rw [hq]
        exact ⟨_, _, _, _, _, rfl, rfl, rfl, rfl, rfl, rfl, rfl⟩
      · refine Cl.of (sadd2_fn s a m l[0]) ?_
        rw [hq]
        exact ⟨_, _, _, _, _, rfl, rfl, rfl, rfl, rfl, rfl, rfl⟩
      rintro _ _ _ _ _ ⟨rfl, rfl, rfl, rfl, rfl⟩
      refine ⟨fun l2 x2 x3 x4 l3 => l2 = bR q ∧ k = x2 ∧ s' = x3 ∧ a' = x4 ∧ l3 = nR m', fun _ _ _ _ _ => 0, ⟨⟨by omega, by omega⟩, _, _, _, _, _, _, _, hg, ?_, ?_⟩, ?_⟩
      · refine Cl.of (radd_fn s a m l[0] (by omega)) ?_
        rw [hq]
        exact ⟨_, _, _, _, _, rfl, rfl, rfl, rfl, rfl, rfl, rfl⟩
      · refine Cl.of (radd_fn s a m l[0] (by omega)) ?_
        rw [hq]
        exact ⟨_, _, _, _, _, rfl, rfl, rfl, rfl, rfl, rfl, rfl⟩
      rintro _ _ _ _ _ ⟨rfl, rfl, rfl, rfl, rfl⟩
      refine ⟨isBytes_bR hqb, isBytes_bR hqb, ?_⟩
      rw [bstr_sne hqb hqb]
      refine ifB_intro (fun h => by simp at h) (fun _ => ?_)
      have := hqm (by omega)
      exact Cl.of (csame_fn s' a' m' s' a' m' (by omega)) ⟨_, rfl, ifB_intro (fun h => by simp at h) (fun _ => ⟨rfl, trivial⟩)⟩
    · obtain ⟨q, k, hq, hqb⟩ := mkR_shape n s a m l sl
      refine Cl.of (smake2_fn n s a m l sl hm (by omega)) ?_
      rw [hq]
      refine ⟨_, _, rfl, Cl.of (rmake_fn n s a m l sl (by omega) (by omega)) ?_⟩
      rw [hq]
      refine ⟨_, _, rfl, Cl.of (sname_fn n) ⟨_, rfl, ifB_intro (fun _ => ?_) (fun h => by simp at h)⟩⟩
      refine ⟨isBytes_bR hqb, isBytes_bR hqb, ?_⟩
      rw [bstr_seq hqb hqb]
      refine ifB_intro (fun _ => ?_) (fun h => by simp at h)
      refine Cl.ofQ (sread_fn b hb (by omega)) ?_
      rintro r ⟨d, st, rfl, hr⟩
      refine ⟨_, _, _, _, _, _, _, _, _, _, rfl, Cl.ofQ (rread_fn b hb (by omega)) ?_⟩
      rintro r ⟨d', st', rfl, hr'⟩
      obtain ⟨rfl, rfl⟩ := RdO.eq hr hr'
      have hdl : (segL d).length ≤ 3000 := by have := hr.pre.length_le; omega
      have hdm : d.m.length ≤ 1000000 ∧ d.ev.length ≤ 1000000 := by
        by_cases hn : d.num = 0
        · rw [hr.ok.zero hn]; simp [sc0]
        · have h1 := okL_right d.ev d.bs d.ba [] (ctx_nil.2 (hr.ok.head hn).2) (hr.ok.evs hn)
          rw [← hr.ok.fin hn] at h1
          have h2 : d.m.length ≤ 32 := (rgtB_iff.1 (ctxB_iff.1 h1).2).1
          have h3 := recL_len d.ev d.bs d.ba []
          have h4 : (recL d.bs d.ba [] d.ev).length ≤ (segL d).length := by
            simp only [segL, if_neg hn, List.length_append]; omega
          exact ⟨by omega, by omega⟩
      exact ⟨_, _, _, _, _, _, _, _, _, _, rfl, Cl.of (rscan_fn d st _ hdm.1 hdm.2) ⟨_, rfl, rfl⟩⟩
end Go.Proofs.YtbocfphenkidnaaGreatDoor.Sgr
