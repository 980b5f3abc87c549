/- Filters and their words, apart from any program. -/
import Derived.Test.YtknnooannohflaaDoorPxK
import Derived.Lib.Join
import Derived.Lib.ItoaMem
import Derived.Lib.ItoaLen
import Derived.Lib.ParseIntB
namespace Go.Proofs.YtknnooannohflaaDoor.Trm
open Go Go.Px Go.Proofs
set_option maxRecDepth 100000
set_option linter.unusedVariables false

abbrev Tx := List UInt8
abbrev bA (l : Tx) : ByteArray := ⟨l.toArray⟩

theorem bA_list (l : Tx) : (bA l).data.toList = l := by simp
theorem bA_of (s : ByteArray) : bA s.data.toList = s := by
  cases s; simp [bA]
theorem bA_inj {a b : Tx} : bA a = bA b ↔ a = b :=
  ⟨fun h => by have := congrArg (fun s : ByteArray => s.data.toList) h; simpa [bA] using this, fun h => h ▸ rfl⟩
theorem bA_ext {a b : ByteArray} : a = b ↔ a.data.toList = b.data.toList :=
  ⟨fun h => h ▸ rfl, fun h => by rw [← bA_of a, ← bA_of b, h]⟩

inductive FlD where
  | mk (op a b : Int) (nm : ByteArray) (ks : List FlD)

def FlD.op : FlD → Int | .mk o _ _ _ _ => o
def FlD.a : FlD → Int | .mk _ a _ _ _ => a
def FlD.b : FlD → Int | .mk _ _ b _ _ => b
def FlD.nm : FlD → ByteArray | .mk _ _ _ n _ => n
def FlD.ks : FlD → List FlD | .mk _ _ _ _ ks => ks

mutual
def FlD.row : FlD → List SV
  | .mk op a b nm ks => [I op, I a, I b, S nm, SL 5 (rowsF ks)]
def rowsF : List FlD → List (List SV)
  | [] => []
  | k :: ks => k.row :: rowsF ks
end

theorem rowsF_map : ∀ ks : List FlD, rowsF ks = ks.map FlD.row
  | [] => by simp [rowsF]
  | k :: ks => by rw [rowsF, rowsF_map ks]; rfl
theorem row_mk (op a b : Int) (nm : ByteArray) (ks : List FlD) : (FlD.mk op a b nm ks).row = [I op, I a, I b, S nm, SL 5 (ks.map FlD.row)] := by
  rw [FlD.row, rowsF_map]

abbrev zeroF : FlD := .mk 0 0 0 ⟨#[]⟩ []

mutual
theorem row_inj : ∀ f g : FlD, f.row = g.row → f = g
  | .mk o a b n ks, .mk o' a' b' n' ks', h => by
    simp only [FlD.row, List.cons.injEq, SV.val.injEq, Value.int.injEq, Value.string.injEq, SV.slice.injEq, true_and, and_true] at h
    obtain ⟨rfl, rfl, rfl, rfl, h⟩ := h
    rw [rowsF_inj ks ks' h]
theorem rowsF_inj : ∀ fs gs : List FlD, rowsF fs = rowsF gs → fs = gs
  | [], [], _ => rfl
  | [], _ :: _, h => by simp [rowsF] at h
  | _ :: _, [], h => by simp [rowsF] at h
  | f :: fs, g :: gs, h => by
    simp only [rowsF, List.cons.injEq] at h
    rw [row_inj f g h.1, rowsF_inj fs gs h.2]
end

/-- A filter is right but for what its kids are. -/
def OkOne (op a b : Int) (m n : Nat) : Prop :=
  (op = 1 ∧ a = 0 ∧ b = 0 ∧ m = 0 ∧ n = 0) ∨ (op = 2 ∧ (0 ≤ a ∧ a ≤ 1099511627776) ∧ (0 ≤ b ∧ b ≤ 1099511627776) ∧ m = 0 ∧ n = 0) ∨
  (op = 3 ∧ (0 ≤ a ∧ a ≤ 4294967296) ∧ (0 ≤ b ∧ b ≤ 4294967296) ∧ m = 0 ∧ n = 0) ∨ (op = 4 ∧ (1 ≤ m ∧ m ≤ 24) ∧ a = 0 ∧ b = 0 ∧ n = 0) ∨
  (op = 5 ∧ (1 ≤ a ∧ a ≤ 10) ∧ b = 0 ∧ m = 0 ∧ n = 0) ∨ (op = 6 ∧ a = 0 ∧ b = 0 ∧ m = 0) ∨ (op = 7 ∧ a = 0 ∧ b = 0 ∧ m = 0) ∨ (op = 8 ∧ a = 0 ∧ b = 0 ∧ m = 0 ∧ n = 1)
instance (op a b : Int) (m n : Nat) : Decidable (OkOne op a b m n) := by unfold OkOne; infer_instance

mutual
def okA : FlD → Prop
  | .mk op a b nm ks => OkOne op a b nm.size ks.length ∧ okL ks
def okL : List FlD → Prop
  | [] => True
  | k :: ks => okA k ∧ okL ks
end
theorem okL_iff : ∀ ks : List FlD, okL ks ↔ ∀ k ∈ ks, okA k
  | [] => by simp [okL]
  | k :: ks => by simp [okL, okL_iff ks]

mutual
def cnt : FlD → Nat
  | .mk _ _ _ _ ks => 1 + cntL ks
def cntL : List FlD → Nat
  | [] => 0
  | k :: ks => cnt k + cntL ks
end
mutual
def dep : FlD → Nat
  | .mk _ _ _ _ ks => 1 + depL ks
def depL : List FlD → Nat
  | [] => 0
  | k :: ks => max (dep k) (depL ks)
end
theorem cnt_pos : ∀ f : FlD, 1 ≤ cnt f
  | .mk _ _ _ _ ks => by rw [cnt]; omega
theorem dep_pos : ∀ f : FlD, 1 ≤ dep f
  | .mk _ _ _ _ ks => by rw [dep]; omega
theorem cntL_app : ∀ a b : List FlD, cntL (a ++ b) = cntL a + cntL b
  | [], b => by simp [cntL]
  | k :: a, b => by simp [cntL, cntL_app a b]; omega
theorem cntL_len : ∀ ks : List FlD, ks.length ≤ cntL ks
  | [] => by simp [cntL]
  | k :: ks => by have := cntL_len ks; have := cnt_pos k; simp [cntL]; omega
theorem depL_mem : ∀ {ks : List FlD} {k : FlD}, k ∈ ks → dep k ≤ depL ks
  | k' :: ks, k, h => by
    rw [depL]
    rcases List.mem_cons.1 h with rfl | h
    · omega
    · have := depL_mem h; omega
theorem cntL_mem : ∀ {ks : List FlD} {k : FlD}, k ∈ ks → cnt k ≤ cntL ks
  | k' :: ks, k, h => by
    rw [cntL]
    rcases List.mem_cons.1 h with rfl | h
    · omega
    · have := cntL_mem h; omega
theorem depL_app : ∀ a b : List FlD, depL (a ++ b) = max (depL a) (depL b)
  | [], b => by simp [depL]
  | k :: a, b => by simp [depL, depL_app a b]

def Rgt (f : FlD) : Prop := okA f ∧ cnt f ≤ 64 ∧ dep f ≤ 16

/- The words. -/
def tAll : Tx := [97, 108, 108]
def tTime : Tx := [116, 105, 109, 101]
def tSeq : Tx := [115, 101, 113]
def tComp : Tx := [99, 111, 109, 112]
def tKind : Tx := [107, 105, 110, 100]
def tAnd : Tx := [97, 110, 100]
def tOr : Tx := [111, 114]
def tNot : Tx := [110, 111, 116]

def hd1 (n : Nat) : UInt8 := UInt8.ofNat (if n < 10 then 48 + n else 87 + n)
def hx (c : UInt8) : Tx := [hd1 (c.toNat / 16), hd1 (c.toNat % 16)]
def spell (nm : ByteArray) : Tx := nm.data.toList.flatMap hx

def hdW (op a b : Int) (nm : ByteArray) (n : Nat) : List Tx :=
  if op = 1 then [tAll] else if op = 2 then [tTime, Lib.itoa a, Lib.itoa b] else if op = 3 then [tSeq, Lib.itoa a, Lib.itoa b] else
  if op = 4 then [tComp, spell nm] else if op = 5 then [tKind, Lib.itoa a] else if op = 6 then [tAnd, Lib.itoa n] else if op = 7 then [tOr, Lib.itoa n] else [tNot]

mutual
def wds : FlD → List Tx
  | .mk op a b nm ks => hdW op a b nm ks.length ++ wdsL ks
def wdsL : List FlD → List Tx
  | [] => []
  | k :: ks => wds k ++ wdsL ks
end
theorem wdsL_app : ∀ a b : List FlD, wdsL (a ++ b) = wdsL a ++ wdsL b
  | [], b => by simp [wdsL]
  | k :: a, b => by simp [wdsL, wdsL_app a b]

abbrev jn (ws : List Tx) : Tx := Lib.join ws [32]
def tx (f : FlD) : Tx := jn (wds f)

theorem jn_cons {w v : Tx} {ws : List Tx} : jn (w :: v :: ws) = w ++ 32 :: jn (v :: ws) := by
  rw [jn, Lib.join_cons, jn, Lib.join_cons]
  simp [Lib.joinTail]
theorem jn_one (w : Tx) : jn [w] = w := Lib.join_one w _
theorem jn_app {a b : List Tx} (ha : a ≠ []) (hb : b ≠ []) : jn (a ++ b) = jn a ++ 32 :: jn b := by
  induction a with
  | nil => exact absurd rfl ha
  | cons w a ih =>
    cases a with
    | nil =>
      cases b with
      | nil => exact absurd rfl hb
      | cons v b => rw [List.singleton_append, jn_cons, jn_one]
    | cons v a =>
      rw [List.cons_append, List.cons_append, jn_cons, ← List.cons_append, ih (by simp), jn_cons]
      simp
theorem jn_len : ∀ ws : List Tx, (jn ws).length ≤ (ws.map fun w => w.length + 1).sum
  | [] => by simp [Lib.join_nil]
  | [w] => by rw [jn_one]; simp
  | w :: v :: ws => by
    have := jn_len (v :: ws)
    rw [jn_cons]
    simp only [List.length_append, List.length_cons, List.map_cons, List.sum_cons] at this ⊢
    omega

/- A text's words. -/
def spl : Tx → List Tx
  | [] => [[]]
  | c :: r => if c = 32 then [] :: spl r else match spl r with
    | [] => [[c]]
    | w :: ws => (c :: w) :: ws

theorem spl_ne : ∀ l : Tx, spl l ≠ []
  | [] => by simp [spl]
  | c :: r => by
    rw [spl]
    split
    · simp
    · split <;> simp
theorem spl_no : ∀ (l : Tx), ∀ w ∈ spl l, 32 ∉ w
  | [], w, h => by simp [spl] at h; subst h; simp
  | c :: r, w, h => by
    have ih := spl_no r
    rw [spl] at h
    split at h
    · rcases List.mem_cons.1 h with rfl | h
      · simp
      · exact ih w h
    · rename_i hc
      split at h
      · simp at h; subst h; simpa using fun e => hc e.symm
      · rename_i v vs e
        rw [e] at ih
        rcases List.mem_cons.1 h with rfl | h
        · intro hm
          rcases List.mem_cons.1 hm with hm | hm
          · exact hc hm.symm
          · exact ih v (by simp) hm
        · exact ih w (by simp [h])
theorem jn_spl : ∀ l : Tx, jn (spl l) = l
  | [] => by rw [spl, jn_one]
  | c :: r => by
    have ih := jn_spl r
    have hne := spl_ne r
    rw [spl]
    split
    · rename_i hc
      cases hs : spl r with
      | nil => exact absurd hs hne
      | cons v vs => rw [hs] at ih; rw [jn_cons, ih, hc]; rfl
    · split
      · rename_i e; exact absurd e hne
      · rename_i v vs e
        rw [e] at ih
        cases vs with
        | nil => rw [jn_one] at ih ⊢; rw [ih]
        | cons u us => rw [jn_cons] at ih ⊢; rw [List.cons_append, ih]
theorem spl_word : ∀ (w : Tx) (r : Tx), 32 ∉ w → spl (w ++ 32 :: r) = w :: spl r
  | [], r, _ => by rw [List.nil_append, spl]; simp
  | c :: w, r, h => by
    have hc : c ≠ 32 := fun e => h (by simp [e])
    rw [List.cons_append, spl, if_neg hc, spl_word w r (fun hm => h (by simp [hm]))]
theorem spl_last : ∀ (w : Tx), 32 ∉ w → spl w = [w]
  | [], _ => by rw [spl]
  | c :: w, h => by
    have hc : c ≠ 32 := fun e => h (by simp [e])
    rw [spl, if_neg hc, spl_last w (fun hm => h (by simp [hm]))]
theorem spl_jn : ∀ ws : List Tx, ws ≠ [] → (∀ w ∈ ws, 32 ∉ w) → spl (jn ws) = ws
  | [], h, _ => absurd rfl h
  | [w], _, h => by rw [jn_one, spl_last w (h w (by simp))]
  | w :: v :: ws, _, h => by
    rw [jn_cons, spl_word w _ (h w (by simp)), spl_jn (v :: ws) (by simp) (fun x hx => h x (by simp [hx]))]
theorem jn_inj {a b : List Tx} (ha : a ≠ []) (hb : b ≠ []) (h1 : ∀ w ∈ a, 32 ∉ w) (h2 : ∀ w ∈ b, 32 ∉ w) (h : jn a = jn b) : a = b := by
  rw [← spl_jn a ha h1, ← spl_jn b hb h2, h]

/- Numbers. -/
theorem digN (u : Nat) (h : u < 208) : (UInt8.ofNat (48 + u)).toNat = 48 + u := by
  rw [UInt8.toNat_ofNat']; omega
theorem dec_dig : ∀ (u : Nat), ∀ c ∈ Lib.decDigits u, 48 ≤ c.toNat ∧ c.toNat ≤ 57 := by
  intro u
  induction u using Nat.strongRecOn with
  | _ u ih =>
    intro c hc
    rw [Lib.decDigits] at hc
    split at hc
    · rw [List.mem_singleton] at hc
      subst hc
      have := digN u (by omega)
      omega
    · rcases List.mem_append.1 hc with hc | hc
      · exact ih (u / 10) (by omega) c hc
      · rw [List.mem_singleton] at hc
        subst hc
        have := digN (u % 10) (by omega)
        omega
theorem dec_ne (u : Nat) : Lib.decDigits u ≠ [] := fun e => by
  have := congrArg List.length e
  rw [Lib.decDigits_length] at this
  have := Lib.nDigits_pos u
  simp at *
  omega

def vDec (l : Tx) : Nat := l.foldl (fun n c => 10 * n + (c.toNat - 48)) 0
theorem vDec_snoc (l : Tx) (c : UInt8) : vDec (l ++ [c]) = 10 * vDec l + (c.toNat - 48) := by simp [vDec]
theorem vDec_dec : ∀ u : Nat, vDec (Lib.decDigits u) = u := by
  intro u
  induction u using Nat.strongRecOn with
  | _ u ih =>
    rw [Lib.decDigits]
    split
    · show 10 * 0 + ((UInt8.ofNat (48 + u)).toNat - 48) = u
      have := digN u (by omega)
      omega
    · rw [vDec_snoc, ih (u / 10) (by omega)]
      have := digN (u % 10) (by omega)
      omega
theorem itoa_pos {n : Int} (h : 0 ≤ n) : Lib.itoa n = Lib.decDigits n.toNat := by unfold Lib.itoa; rw [if_neg (by omega)]
theorem itoa_inj {a b : Int} (ha : 0 ≤ a) (hb : 0 ≤ b) (h : Lib.itoa a = Lib.itoa b) : a = b := by
  rw [itoa_pos ha, itoa_pos hb] at h
  have := congrArg vDec h
  rw [vDec_dec, vDec_dec] at this
  omega
theorem itoa_no {n : Int} (h : 0 ≤ n) : 32 ∉ Lib.itoa n := fun hm => by
  rw [itoa_pos h] at hm
  have := dec_dig _ _ hm
  revert this; decide
theorem itoa_ne {n : Int} (h : 0 ≤ n) : Lib.itoa n ≠ [] := by rw [itoa_pos h]; exact dec_ne _

theorem pUM_app (M : Nat) : ∀ (l r : Tx) (acc u : Nat), Lib.parseUintM M acc l = .ok u → Lib.parseUintM M acc (l ++ r) = Lib.parseUintM M u r
  | [], r, acc, u, h => by simp only [Lib.parseUintM] at h; cases h; rfl
  | c :: l, r, acc, u, h => by
    simp only [Lib.parseUintM] at h
    rw [List.cons_append]
    simp only [Lib.parseUintM]
    split at h
    · rename_i h1
      rw [if_pos h1]
      split at h
      · cases h
      · rename_i h2
        rw [if_neg h2]
        split at h
        · cases h
        · rename_i h3
          rw [if_neg h3]
          exact pUM_app M l r _ u h
    · cases h
theorem pUM_dec (M : Nat) (hM : M ≤ 18446744073709551615) : ∀ u : Nat, u ≤ M → Lib.parseUintM M 0 (Lib.decDigits u) = .ok u := by
  intro u
  induction u using Nat.strongRecOn with
  | _ u ih =>
    intro hu
    rw [Lib.decDigits]
    split
    · have := digN u (by omega)
      simp only [Lib.parseUintM, this]
      rw [if_pos (by omega), if_neg (by omega), if_neg (by omega)]
      congr 1; omega
    · rw [pUM_app M _ _ 0 (u / 10) (ih (u / 10) (by omega) (by omega))]
      have := digN (u % 10) (by omega)
      simp only [Lib.parseUintM, this]
      rw [if_pos (by omega), if_neg (by omega), if_neg (by omega)]
      congr 1; omega
theorem parseInt_itoa {n : Int} (h0 : 0 ≤ n) (h1 : n ≤ 1099511627776) : Lib.parseIntB 64 (Lib.itoa n) = .ok n := by
  rw [itoa_pos h0]
  have hd := dec_dig n.toNat
  have hp := pUM_dec 18446744073709551615 (Nat.le_refl _) n.toNat (by omega)
  have hne := dec_ne n.toNat
  generalize Lib.decDigits n.toNat = l at hd hp hne
  cases l with
  | nil => exact absurd rfl hne
  | cons c r =>
    have hc := hd c (by simp)
    unfold Lib.parseIntB
    simp only
    rw [if_neg (by omega)]
    have : Lib.parseUintB 64 (c :: r) = .ok n.toNat := by
      unfold Lib.parseUintB
      rw [if_neg (by simp)]
      exact hp
    rw [this]
    simp only
    rw [if_neg (by omega), if_neg (by omega), if_neg (by omega)]
    congr 1; omega

/- Names. -/
theorem hd1_toNat {n : Nat} (h : n < 16) : (hd1 n).toNat = if n < 10 then 48 + n else 87 + n := by
  unfold hd1
  split <;> simp [UInt8.toNat_ofNat'] <;> omega
theorem hd1_inj {m n : Nat} (h1 : m < 16) (h2 : n < 16) (h : hd1 m = hd1 n) : m = n := by
  have := congrArg UInt8.toNat h
  rw [hd1_toNat h1, hd1_toNat h2] at this
  split at this <;> split at this <;> omega
theorem hx_inj {c d : UInt8} (h : hx c = hx d) : c = d := by
  simp only [hx, List.cons.injEq, and_true] at h
  have hc := UInt8.toNat_lt c
  have hd := UInt8.toNat_lt d
  have h1 := hd1_inj (by omega) (by omega) h.1
  have h2 := hd1_inj (by omega) (by omega) h.2
  apply UInt8.toNat_inj.1
  omega
theorem flat_inj : ∀ a b : Tx, a.flatMap hx = b.flatMap hx → a = b
  | [], [], _ => rfl
  | [], d :: b, h => by simp [hx] at h
  | c :: a, [], h => by simp [hx] at h
  | c :: a, d :: b, h => by
    simp only [List.flatMap_cons] at h
    have h1 : hx c = hx d := by
      have := congrArg (List.take 2) h
      simpa [hx] using this
    have h2 : a.flatMap hx = b.flatMap hx := by
      have := congrArg (List.drop 2) h
      simpa [hx] using this
    rw [hx_inj h1, flat_inj a b h2]
theorem spell_inj {a b : ByteArray} (h : spell a = spell b) : a = b := bA_ext.2 (flat_inj _ _ h)
theorem spell_len (a : ByteArray) : (spell a).length = 2 * a.size := by
  unfold spell
  rw [show a.size = a.data.toList.length by rw [Array.length_toList]; rfl]
  induction a.data.toList with
  | nil => rfl
  | cons c l ih => rw [List.flatMap_cons, List.length_append, ih]; simp [hx]; omega
theorem spell_no (a : ByteArray) : 32 ∉ spell a := fun h => by
  unfold spell at h
  rw [List.mem_flatMap] at h
  obtain ⟨c, _, h⟩ := h
  have hc := UInt8.toNat_lt c
  have key : ∀ n, n < 16 → (32 : UInt8) ≠ hd1 n := fun n hn e => by
    have := congrArg UInt8.toNat e
    rw [hd1_toNat hn] at this
    have h32 : (32 : UInt8).toNat = 32 := rfl
    rw [h32] at this
    split at this <;> omega
  simp only [hx, List.mem_cons, List.not_mem_nil, or_false] at h
  rcases h with h | h
  · exact key _ (by omega) h
  · exact key _ (by omega) h

/- The words tell the filter. -/
theorem hdW_ne (op a b : Int) (nm : ByteArray) (n : Nat) : hdW op a b nm n ≠ [] := by
  unfold hdW
  repeat' split
  all_goals simp
theorem wds_ne : ∀ f : FlD, wds f ≠ []
  | .mk op a b nm ks => by
    rw [wds]
    intro h
    exact hdW_ne _ _ _ _ _ (List.append_eq_nil_iff.1 h).1
theorem hdW_no {op a b : Int} {nm : ByteArray} {n : Nat} (h : OkOne op a b nm.size n) : ∀ w ∈ hdW op a b nm n, 32 ∉ w := by
  intro w hw
  unfold hdW at hw
  unfold OkOne at h
  split at hw
  · simp at hw; subst hw; decide
  split at hw
  · simp at hw
    rcases hw with rfl | rfl | rfl
    · decide
    · exact itoa_no (by omega)
    · exact itoa_no (by omega)
  split at hw
  · simp at hw
    rcases hw with rfl | rfl | rfl
    · decide
    · exact itoa_no (by omega)
    · exact itoa_no (by omega)
  split at hw
  · simp at hw
    rcases hw with rfl | rfl
    · decide
    · exact spell_no _
  split at hw
  · simp at hw
    rcases hw with rfl | rfl
    · decide
    · exact itoa_no (by omega)
  split at hw
  · simp at hw
    rcases hw with rfl | rfl
    · decide
    · exact itoa_no (by omega)
  split at hw
  · simp at hw
    rcases hw with rfl | rfl
    · decide
    · exact itoa_no (by omega)
  · simp at hw; subst hw; decide
mutual
theorem wds_no : ∀ f : FlD, okA f → ∀ w ∈ wds f, 32 ∉ w
  | .mk op a b nm ks, h, w, hw => by
    rw [okA] at h
    rw [wds, List.mem_append] at hw
    rcases hw with hw | hw
    · exact hdW_no h.1 w hw
    · exact wdsL_no ks h.2 w hw
theorem wdsL_no : ∀ ks : List FlD, okL ks → ∀ w ∈ wdsL ks, 32 ∉ w
  | [], _, w, hw => by simp [wdsL] at hw
  | k :: ks, h, w, hw => by
    rw [okL] at h
    rw [wdsL, List.mem_append] at hw
    rcases hw with hw | hw
    · exact wds_no k h.1 w hw
    · exact wdsL_no ks h.2 w hw
end

theorem hdW_inj {op a b op' a' b' : Int} {nm nm' : ByteArray} {n n' : Nat} {r r' : List Tx} (h : OkOne op a b nm.size n) (h' : OkOne op' a' b' nm'.size n') (e : hdW op a b nm n ++ r = hdW op' a' b' nm' n' ++ r') :
    op = op' ∧ a = a' ∧ b = b' ∧ nm = nm' ∧ n = n' ∧ r = r' := by
  have em : ∀ {x y : ByteArray}, x.size = 0 → y.size = 0 → x = y := fun {x y} hx hy => by
    apply bA_ext.2
    rw [ByteArray.size] at hx hy
    have h1 : x.data.toList = [] := List.eq_nil_of_length_eq_zero (by simpa using hx)
    have h2 : y.data.toList = [] := List.eq_nil_of_length_eq_zero (by simpa using hy)
    rw [h1, h2]
  unfold OkOne at h h'
  rcases h with ⟨rfl, h⟩ | ⟨rfl, h⟩ | ⟨rfl, h⟩ | ⟨rfl, h⟩ | ⟨rfl, h⟩ | ⟨rfl, h⟩ | ⟨rfl, h⟩ | ⟨rfl, h⟩ <;>
  rcases h' with ⟨rfl, h'⟩ | ⟨rfl, h'⟩ | ⟨rfl, h'⟩ | ⟨rfl, h'⟩ | ⟨rfl, h'⟩ | ⟨rfl, h'⟩ | ⟨rfl, h'⟩ | ⟨rfl, h'⟩ <;>
  simp [hdW, tAll, tTime, tSeq, tComp, tKind, tAnd, tOr, tNot] at e
  · exact ⟨rfl, by omega, by omega, em (by omega) (by omega), by omega, e⟩
  · exact ⟨rfl, itoa_inj (by omega) (by omega) e.1, itoa_inj (by omega) (by omega) e.2.1, em (by omega) (by omega), by omega, e.2.2⟩
  · exact ⟨rfl, itoa_inj (by omega) (by omega) e.1, itoa_inj (by omega) (by omega) e.2.1, em (by omega) (by omega), by omega, e.2.2⟩
  · exact ⟨rfl, by omega, by omega, spell_inj e.1, by omega, e.2⟩
  · exact ⟨rfl, itoa_inj (by omega) (by omega) e.1, by omega, em (by omega) (by omega), by omega, e.2⟩
  · have := itoa_inj (by omega) (by omega) e.1
    exact ⟨rfl, by omega, by omega, em (by omega) (by omega), by omega, e.2⟩
  · have := itoa_inj (by omega) (by omega) e.1
    exact ⟨rfl, by omega, by omega, em (by omega) (by omega), by omega, e.2⟩
  · exact ⟨rfl, by omega, by omega, em (by omega) (by omega), by omega, e⟩

mutual
theorem wds_inj : ∀ (f g : FlD) (r r' : List Tx), okA f → okA g → wds f ++ r = wds g ++ r' → f = g ∧ r = r'
  | .mk op a b nm ks, .mk op' a' b' nm' ks', r, r', h, h', e => by
    rw [okA] at h h'
    rw [wds, wds, List.append_assoc, List.append_assoc] at e
    obtain ⟨rfl, rfl, rfl, rfl, hn, e⟩ := hdW_inj h.1 h'.1 e
    obtain ⟨rfl, rfl⟩ := wdsL_inj ks ks' r r' hn h.2 h'.2 e
    exact ⟨rfl, rfl⟩
theorem wdsL_inj : ∀ (fs gs : List FlD) (r r' : List Tx), fs.length = gs.length → okL fs → okL gs → wdsL fs ++ r = wdsL gs ++ r' → fs = gs ∧ r = r'
  | [], [], r, r', _, _, _, e => ⟨rfl, by simpa [wdsL] using e⟩
  | [], _ :: _, _, _, h, _, _, _ => by simp at h
  | _ :: _, [], _, _, h, _, _, _ => by simp at h
  | f :: fs, g :: gs, r, r', hl, h, h', e => by
    rw [okL] at h h'
    rw [wdsL, wdsL, List.append_assoc, List.append_assoc] at e
    obtain ⟨e1, e2⟩ := wds_inj f g _ _ h.1 h'.1 e
    obtain ⟨e3, e4⟩ := wdsL_inj fs gs r r' (by simpa using hl) h.2 h'.2 e2
    exact ⟨by rw [e1, e3], e4⟩
end
theorem tx_inj {f g : FlD} (hf : okA f) (hg : okA g) (h : tx f = tx g) : f = g := by
  have := jn_inj (wds_ne f) (wds_ne g) (wds_no f hf) (wds_no g hg) h
  exact (wds_inj f g [] [] hf hg (by rw [this])).1

/- Lengths. -/
theorem hdW_len {op a b : Int} {nm : ByteArray} {n : Nat} (h : OkOne op a b nm.size n) (hn : n ≤ 4294967296) : (hdW op a b nm n).length ≤ 3 ∧ ((hdW op a b nm n).map fun w => w.length + 1).sum ≤ 60 := by
  have hl : ∀ x : Int, 0 ≤ x → x ≤ 1099511627776 → (Lib.itoa x).length ≤ 21 := fun x h0 h1 => Lib.itoa_length_le x (by omega) (by omega)
  have hs := spell_len nm
  unfold OkOne at h
  rcases h with ⟨rfl, h⟩ | ⟨rfl, h⟩ | ⟨rfl, h⟩ | ⟨rfl, h⟩ | ⟨rfl, h⟩ | ⟨rfl, h⟩ | ⟨rfl, h⟩ | ⟨rfl, h⟩
  · simp [hdW, tAll]
  · have := hl a (by omega) (by omega); have := hl b (by omega) (by omega)
    simp [hdW, tTime]; omega
  · have := hl a (by omega) (by omega); have := hl b (by omega) (by omega)
    simp [hdW, tSeq]; omega
  · simp [hdW, tComp]; omega
  · have := hl a (by omega) (by omega)
    simp [hdW, tKind]; omega
  · have := hl n (by omega) (by omega)
    simp [hdW, tAnd]; omega
  · have := hl n (by omega) (by omega)
    simp [hdW, tOr]; omega
  · simp [hdW, tNot]
mutual
theorem wds_len : ∀ f : FlD, okA f → cnt f ≤ 4294967296 → (wds f).length ≤ 3 * cnt f ∧ ((wds f).map fun w => w.length + 1).sum ≤ 60 * cnt f
  | .mk op a b nm ks, h, hc => by
    rw [okA] at h
    rw [cnt] at hc
    have h1 := hdW_len h.1 (by have := cntL_len ks; omega)
    have h2 := wdsL_len ks h.2 (by omega)
    rw [wds, cnt, List.length_append, List.map_append, List.sum_append]
    omega
theorem wdsL_len : ∀ ks : List FlD, okL ks → cntL ks ≤ 4294967296 → (wdsL ks).length ≤ 3 * cntL ks ∧ ((wdsL ks).map fun w => w.length + 1).sum ≤ 60 * cntL ks
  | [], _, _ => by simp [wdsL, cntL]
  | k :: ks, h, hc => by
    rw [okL] at h
    rw [cntL] at hc
    have h1 := wds_len k h.1 (by omega)
    have h2 := wdsL_len ks h.2 (by omega)
    rw [wdsL, cntL, List.length_append, List.map_append, List.sum_append]
    omega
end
theorem tx_len {f : FlD} (h : Rgt f) : (tx f).length ≤ 3840 := by
  have h1 := (wds_len f h.1 (by have := h.2.1; omega)).2
  have h2 := jn_len (wds f)
  have := h.2.1
  show (jn (wds f)).length ≤ 3840
  omega
theorem tx_no_more {f g : FlD} (hf : okA f) (hg : okA g) {v : Tx} {ws : List Tx} (hw : ∀ w ∈ v :: ws, 32 ∉ w) : tx g ≠ tx f ++ 32 :: jn (v :: ws) := fun e => by
  have e2 : jn (wds g) = jn (wds f ++ v :: ws) := by rw [jn_app (wds_ne f) (by simp)]; exact e
  have := jn_inj (wds_ne g) (by simp) (wds_no g hg) (fun w h => by
    rcases List.mem_append.1 h with h | h
    · exact wds_no f hf w h
    · exact hw w h) e2
  have := (wds_inj g f [] (v :: ws) hg hf (by simpa using this)).2
  simp at this
end Go.Proofs.YtknnooannohflaaDoor.Trm
