/- Layer 27 over plain lists: what stands for a byte, a line, families. -/
import Derived.Test.YtknnooannohflaaGreatDoorTrmA
import Derived.Test.YtknnooannohflaaGreatDoorMzA
import Derived.Test.YtknnooannohflaaGreatDoorMzD
import Derived.Lib.ItoaLen
namespace Go.Proofs.YtknnooannohflaaGreatDoor.Exp
open Go Go.Px Go.Proofs Go.Proofs.YtknnooannohflaaGreatDoor.Trm Go.Proofs.YtknnooannohflaaGreatDoor.Met
set_option maxRecDepth 100000
set_option linter.unusedVariables false

def eH (c : UInt8) : Tx := if c = 10 then [92, 110] else if c = 92 then [92, 92] else [c]
def eV (c : UInt8) : Tx := if c = 34 then [92, 34] else if c = 10 then [92, 110] else if c = 92 then [92, 92] else [c]
def hlpT (l : Tx) : Tx := l.flatMap eH
def valT (l : Tx) : Tx := l.flatMap eV

theorem eV_cancel {c d : UInt8} {r s : Tx} (h : eV c ++ r = eV d ++ s) : c = d ∧ r = s := by
  unfold eV at h
  repeat' split at h
  all_goals simp_all
theorem eH_cancel {c d : UInt8} {r s : Tx} (h : eH c ++ r = eH d ++ s) : c = d ∧ r = s := by
  unfold eH at h
  repeat' split at h
  all_goals simp_all
theorem eV_head (c : UInt8) : ∃ u r, eV c = u :: r ∧ u ≠ 34 ∧ u ≠ 10 := by
  unfold eV
  split
  · exact ⟨92, [34], rfl, by decide, by decide⟩
  · split
    · exact ⟨92, [110], rfl, by decide, by decide⟩
    · split
      · exact ⟨92, [92], rfl, by decide, by decide⟩
      · exact ⟨c, [], rfl, by assumption, by assumption⟩
theorem eH_head (c : UInt8) : ∃ u r, eH c = u :: r ∧ u ≠ 10 := by
  unfold eH
  split
  · exact ⟨92, [110], rfl, by decide⟩
  · split
    · exact ⟨92, [92], rfl, by decide⟩
    · exact ⟨c, [], rfl, by assumption⟩
theorem eV_no (c : UInt8) : 10 ∉ eV c := by
  unfold eV
  split
  · decide
  · split
    · decide
    · split
      · decide
      · rename_i h _; simp; exact Ne.symm h
theorem eH_no (c : UInt8) : 10 ∉ eH c := by
  unfold eH
  split
  · decide
  · split
    · decide
    · rename_i h _; simp; exact Ne.symm h
theorem valT_no (l : Tx) : 10 ∉ valT l := by
  unfold valT; rw [List.mem_flatMap]; rintro ⟨c, _, h⟩; exact eV_no c h
theorem hlpT_no (l : Tx) : 10 ∉ hlpT l := by
  unfold hlpT; rw [List.mem_flatMap]; rintro ⟨c, _, h⟩; exact eH_no c h

theorem valT_cut : ∀ {a b x y : Tx}, valT a ++ 34 :: x = valT b ++ 34 :: y → a = b ∧ x = y
  | [], [], x, y, h => by simpa [valT] using h
  | [], d :: b, x, y, h => by
    obtain ⟨u, r, e, h1, _⟩ := eV_head d
    simp [valT, e] at h
    exact absurd h.1.symm h1
  | c :: a, [], x, y, h => by
    obtain ⟨u, r, e, h1, _⟩ := eV_head c
    simp [valT, e] at h
    exact absurd h.1 h1
  | c :: a, d :: b, x, y, h => by
    simp only [valT, List.flatMap_cons, List.append_assoc] at h
    obtain ⟨rfl, k1⟩ := eV_cancel h
    obtain ⟨rfl, k2⟩ := valT_cut (a := a) (b := b) k1
    exact ⟨rfl, k2⟩
theorem hlpT_cut : ∀ {a b x y : Tx}, hlpT a ++ 10 :: x = hlpT b ++ 10 :: y → a = b ∧ x = y
  | [], [], x, y, h => by simpa [hlpT] using h
  | [], d :: b, x, y, h => by
    obtain ⟨u, r, e, h1⟩ := eH_head d
    simp [hlpT, e] at h
    exact absurd h.1.symm h1
  | c :: a, [], x, y, h => by
    obtain ⟨u, r, e, h1⟩ := eH_head c
    simp [hlpT, e] at h
    exact absurd h.1 h1
  | c :: a, d :: b, x, y, h => by
    simp only [hlpT, List.flatMap_cons, List.append_assoc] at h
    obtain ⟨rfl, k1⟩ := eH_cancel h
    obtain ⟨rfl, k2⟩ := hlpT_cut (a := a) (b := b) k1
    exact ⟨rfl, k2⟩
/- The backslashes that stand ahead of a place. -/
def bk (n : Nat) (c : UInt8) : Nat := if c = 92 then n + 1 else 0
def bkL (n : Nat) (l : Tx) : Nat := l.foldl bk n
def okQ : Nat → Tx → Prop
  | n, [] => n % 2 = 0
  | n, c :: l => c ≠ 10 ∧ (c = 34 → n % 2 = 1) ∧ okQ (bk n c) l
/- Labels, lines, families. -/
def labC (p : LaD) : Tx := p.1.data.toList ++ 61 :: 34 :: (valT p.2.data.toList ++ [34])
def labT : List LaD → Tx
  | [] => []
  | p :: ps => 123 :: labC p ++ ps.flatMap fun q => 44 :: labC q
def linT (x : SmD) : Tx := x.nm.data.toList ++ labT x.ls ++ (if x.ls = [] then [] else [125]) ++ 32 :: Lib.itoa x.v
def wrdT (k : Int) : Tx := if k = 1 then [99, 111, 117, 110, 116, 101, 114] else if k = 2 then [103, 97, 117, 103, 101] else [104, 105, 115, 116, 111, 103, 114, 97, 109]
def hdH (f : FaD) : Tx := 35 :: 32 :: 72 :: 69 :: 76 :: 80 :: 32 :: (f.nm.data.toList ++ 32 :: (hlpT f.hp.data.toList ++ [10]))
def hdT (f : FaD) : Tx := 35 :: 32 :: 84 :: 89 :: 80 :: 69 :: 32 :: (f.nm.data.toList ++ 32 :: (wrdT f.ty ++ [10]))
def samT (l : List SmD) : Tx := l.flatMap fun x => linT x ++ [10]
def famT (f : FaD) : Tx := hdH f ++ hdT f ++ samT f.ss
def txtT (l : List FaD) : Tx := l.flatMap famT

theorem labT_snoc (l : List LaD) (p : LaD) : labT (l ++ [p]) = labT l ++ (if l = [] then 123 else 44) :: labC p := by
  cases l with
  | nil => simp [labT]
  | cons q l => simp [labT]

/-- The bytes of a name. -/
def nmB (c : UInt8) : Prop := c ≠ 10 ∧ c ≠ 32 ∧ c ≠ 34 ∧ c ≠ 35 ∧ c ≠ 44 ∧ c ≠ 61 ∧ c ≠ 123 ∧ c ≠ 125
theorem span_uniq {p : UInt8 → Prop} : ∀ {a b : Tx} {c d : UInt8} {x y : Tx}, (∀ u ∈ a, p u) → (∀ u ∈ b, p u) → ¬ p c → ¬ p d → a ++ c :: x = b ++ d :: y → a = b ∧ c = d ∧ x = y
  | [], [], c, d, x, y, _, _, _, _, h => by simp at h; exact ⟨rfl, h⟩
  | [], u :: b, c, d, x, y, _, hb, hc, _, h => by
    simp at h; exact absurd (h.1 ▸ hb u (by simp)) hc
  | u :: a, [], c, d, x, y, ha, _, _, hd, h => by
    simp at h; exact absurd (h.1 ▸ ha u (by simp)) hd
  | u :: a, v :: b, c, d, x, y, ha, hb, hc, hd, h => by
    simp at h
    obtain ⟨rfl, k1⟩ := h
    obtain ⟨rfl, k2⟩ := span_uniq (fun w hw => ha w (by simp [hw])) (fun w hw => hb w (by simp [hw])) hc hd k1
    exact ⟨rfl, k2⟩

def nmOK (s : ByteArray) : Prop := s.data.toList ≠ [] ∧ ∀ u ∈ s.data.toList, nmB u
def laOK (p : LaD) : Prop := nmOK p.1
def smOK (x : SmD) : Prop := nmOK x.nm ∧ ∀ p ∈ x.ls, laOK p

theorem labC_cut {p q : LaD} (hp : laOK p) (hq : laOK q) {x y : Tx} (h : labC p ++ x = labC q ++ y) : p = q ∧ x = y := by
  simp only [labC, List.append_assoc, List.cons_append, List.nil_append] at h
  obtain ⟨h1, _, h2⟩ := span_uniq (p := nmB) hp.2 hq.2 (fun h => h.2.2.2.2.2.1 rfl) (fun h => h.2.2.2.2.2.1 rfl) h
  simp only [List.cons.injEq, true_and] at h2
  obtain ⟨h3, h4⟩ := valT_cut h2
  refine ⟨Prod.ext (bA_ext.2 h1) (bA_ext.2 h3), h4⟩
theorem labs_cut : ∀ {l m : List LaD} {x y : Tx}, (∀ p ∈ l, laOK p) → (∀ p ∈ m, laOK p) → (l.flatMap fun q => 44 :: labC q) ++ 125 :: x = (m.flatMap fun q => 44 :: labC q) ++ 125 :: y → l = m ∧ x = y
  | [], [], x, y, _, _, h => by simpa using h
  | [], q :: m, x, y, _, _, h => by simp at h
  | p :: l, [], x, y, _, _, h => by simp at h
  | p :: l, q :: m, x, y, hl, hm, h => by
    simp only [List.flatMap_cons, List.cons_append, List.append_assoc, List.cons.injEq, true_and] at h
    obtain ⟨rfl, k1⟩ := labC_cut (hl p (by simp)) (hm q (by simp)) h
    obtain ⟨rfl, k2⟩ := labs_cut (fun r hr => hl r (by simp [hr])) (fun r hr => hm r (by simp [hr])) k1
    exact ⟨rfl, k2⟩

theorem itoa_dig {n : Int} {c : UInt8} (h : c ∈ Lib.itoa n) : c = 45 ∨ (48 ≤ c.toNat ∧ c.toNat ≤ 57) := by
  by_cases h0 : 0 ≤ n
  · rw [itoa_pos h0] at h
    exact .inr (dec_dig _ _ h)
  · obtain ⟨u, rfl, hu⟩ : ∃ u : Nat, n = -(u : Int) ∧ 1 ≤ u := ⟨n.natAbs, by omega, by omega⟩
    rw [Lib.itoa_neg u hu] at h
    rcases List.mem_cons.1 h with h | h
    · exact .inl h
    · exact .inr (dec_dig _ _ h)
theorem itoa_no10 (n : Int) : 10 ∉ Lib.itoa n := fun h => by
  rcases itoa_dig h with h | h
  · revert h; decide
  · revert h; decide
theorem itoaI_inj {m n : Int} (h : Lib.itoa m = Lib.itoa n) : m = n := by
  by_cases hm : 0 ≤ m <;> by_cases hn : 0 ≤ n
  · exact itoa_inj hm hn h
  · exfalso
    obtain ⟨u, rfl, hu⟩ : ∃ u : Nat, n = -(u : Int) ∧ 1 ≤ u := ⟨n.natAbs, by omega, by omega⟩
    rw [itoa_pos hm, Lib.itoa_neg u hu] at h
    have := dec_dig m.toNat 45 (by rw [h]; simp)
    revert this; decide
  · exfalso
    obtain ⟨u, rfl, hu⟩ : ∃ u : Nat, m = -(u : Int) ∧ 1 ≤ u := ⟨m.natAbs, by omega, by omega⟩
    rw [itoa_pos hn, Lib.itoa_neg u hu] at h
    have := dec_dig n.toNat 45 (by rw [← h]; simp)
    revert this; decide
  · obtain ⟨u, rfl, hu⟩ : ∃ u : Nat, m = -(u : Int) ∧ 1 ≤ u := ⟨m.natAbs, by omega, by omega⟩
    obtain ⟨v, rfl, hv⟩ : ∃ v : Nat, n = -(v : Int) ∧ 1 ≤ v := ⟨n.natAbs, by omega, by omega⟩
    rw [Lib.itoa_neg u hu, Lib.itoa_neg v hv] at h
    have := congrArg vDec (List.cons.inj h).2
    rw [vDec_dec, vDec_dec] at this
    omega

theorem no_cut {a b x y : Tx} (ha : 10 ∉ a) (hb : 10 ∉ b) (h : a ++ 10 :: x = b ++ 10 :: y) : a = b ∧ x = y := by
  obtain ⟨h1, _, h2⟩ := span_uniq (p := fun c => c ≠ 10) (fun u hu e => ha (e ▸ hu)) (fun u hu e => hb (e ▸ hu)) (by simp) (by simp) h
  exact ⟨h1, h2⟩

theorem linT_cut {a b : SmD} (ha : smOK a) (hb : smOK b) {x y : Tx} (h : linT a ++ 10 :: x = linT b ++ 10 :: y) : a = b ∧ x = y := by
  obtain ⟨an, al, av⟩ := a
  obtain ⟨bn, bl, bv⟩ := b
  simp only [linT, List.append_assoc, List.cons_append] at h
  have n32 : ¬ nmB 32 := fun h => h.2.1 rfl
  have n123 : ¬ nmB 123 := fun h => h.2.2.2.2.2.2.1 rfl
  have fin : ∀ {u v : Tx}, 32 :: (Lib.itoa av ++ 10 :: u) = 32 :: (Lib.itoa bv ++ 10 :: v) → av = bv ∧ u = v := fun h => by
    simp only [List.cons.injEq, true_and] at h
    obtain ⟨h1, h2⟩ := no_cut (itoa_no10 av) (itoa_no10 bv) h
    exact ⟨itoaI_inj h1, h2⟩
  cases al with
  | nil =>
    cases bl with
    | nil =>
      simp only [labT, List.nil_append, if_pos] at h
      obtain ⟨h1, _, h2⟩ := span_uniq ha.1.2 hb.1.2 n32 n32 h
      obtain ⟨rfl, h3⟩ := fin (congrArg (32 :: ·) h2)
      obtain rfl := bA_ext.2 h1
      exact ⟨rfl, h3⟩
    | cons q bl =>
      simp only [labT, List.nil_append, if_pos, List.cons_append] at h
      obtain ⟨_, h2, _⟩ := span_uniq ha.1.2 hb.1.2 n32 n123 h
      exact absurd h2 (by decide)
  | cons p al =>
    cases bl with
    | nil =>
      simp only [labT, List.nil_append, if_pos, List.cons_append] at h
      obtain ⟨_, h2, _⟩ := span_uniq ha.1.2 hb.1.2 n123 n32 h
      exact absurd h2 (by decide)
    | cons q bl =>
      simp only [labT, if_neg (List.cons_ne_nil _ _), List.cons_append, List.append_assoc, List.nil_append] at h
      obtain ⟨h1, _, h2⟩ := span_uniq ha.1.2 hb.1.2 n123 n123 h
      obtain ⟨rfl, k2⟩ := labC_cut (ha.2 p (by simp)) (hb.2 q (by simp)) h2
      obtain ⟨rfl, k3⟩ := labs_cut (fun r hr => ha.2 r (by simp [hr])) (fun r hr => hb.2 r (by simp [hr])) k2
      obtain ⟨rfl, h3⟩ := fin k3
      obtain rfl := bA_ext.2 h1
      exact ⟨rfl, h3⟩

/-- Behind the samples: nothing, or a #. -/
def stopT (x : Tx) : Prop := x = [] ∨ ∃ r, x = 35 :: r
theorem linT_head {a : SmD} (h : smOK a) : ∃ u r, linT a = u :: r ∧ u ≠ 35 := by
  obtain ⟨⟨h1, h2⟩, _⟩ := h
  cases e : a.nm.data.toList with
  | nil => exact absurd e h1
  | cons u r => exact ⟨u, r ++ labT a.ls ++ (if a.ls = [] then [] else [125]) ++ 32 :: Lib.itoa a.v, by unfold linT; rw [e]; rfl, (h2 u (by rw [e]; simp)).2.2.2.1⟩
theorem samT_cut : ∀ {l m : List SmD} {x y : Tx}, (∀ a ∈ l, smOK a) → (∀ a ∈ m, smOK a) → stopT x → stopT y → samT l ++ x = samT m ++ y → l = m ∧ x = y
  | [], [], x, y, _, _, _, _, h => by simpa [samT] using h
  | [], b :: m, x, y, _, hm, hx, _, h => by
    obtain ⟨u, r, e, hu⟩ := linT_head (hm b (by simp))
    simp only [samT, List.flatMap_nil, List.nil_append, List.flatMap_cons, e, List.cons_append, List.append_assoc] at h
    rcases hx with rfl | ⟨r, rfl⟩
    · cases h
    · exact absurd (List.cons.inj h).1.symm hu
  | a :: l, [], x, y, hl, _, _, hy, h => by
    obtain ⟨u, r, e, hu⟩ := linT_head (hl a (by simp))
    simp only [samT, List.flatMap_nil, List.nil_append, List.flatMap_cons, e, List.cons_append, List.append_assoc] at h
    rcases hy with rfl | ⟨r, rfl⟩
    · cases h
    · exact absurd (List.cons.inj h).1 hu
  | a :: l, b :: m, x, y, hl, hm, hx, hy, h => by
    simp only [samT, List.flatMap_cons, List.append_assoc, List.cons_append, List.nil_append] at h
    obtain ⟨rfl, k1⟩ := linT_cut (hl a (by simp)) (hm b (by simp)) h
    obtain ⟨rfl, k2⟩ := samT_cut (fun r hr => hl r (by simp [hr])) (fun r hr => hm r (by simp [hr])) hx hy k1
    exact ⟨rfl, k2⟩

def faOK (f : FaD) : Prop := nmOK f.nm ∧ (1 ≤ f.ty ∧ f.ty ≤ 3) ∧ ∀ x ∈ f.ss, smOK x
theorem wrd_no (k : Int) : 10 ∉ wrdT k := by unfold wrdT; split; · decide
                                             · split <;> decide
theorem wrd_inj {k m : Int} (hk : 1 ≤ k ∧ k ≤ 3) (hm : 1 ≤ m ∧ m ≤ 3) (h : wrdT k = wrdT m) : k = m := by
  have : ∀ k : Int, 1 ≤ k ∧ k ≤ 3 → k = 1 ∨ k = 2 ∨ k = 3 := fun k h => by omega
  rcases this k hk with rfl | rfl | rfl <;> rcases this m hm with rfl | rfl | rfl <;> first | rfl | (exfalso; revert h; decide)

theorem txt_stop (l : List FaD) : stopT (txtT l) := by
  cases l with
  | nil => exact .inl rfl
  | cons f l => exact .inr ⟨_, rfl⟩
theorem famT_cut {f g : FaD} (hf : faOK f) (hg : faOK g) {x y : Tx} (hx : stopT x) (hy : stopT y) (h : famT f ++ x = famT g ++ y) : f = g ∧ x = y := by
  have n32 : ¬ nmB 32 := fun h => h.2.1 rfl
  obtain ⟨fn, fh, ft, fs⟩ := f
  obtain ⟨gn, gh, gt, gs⟩ := g
  simp only [famT, hdH, hdT, List.append_assoc, List.cons_append, List.nil_append, List.cons.injEq, true_and] at h
  obtain ⟨h1, _, k1⟩ := span_uniq hf.1.2 hg.1.2 n32 n32 h
  obtain rfl := bA_ext.2 h1
  obtain ⟨h2, k2⟩ := hlpT_cut k1
  obtain rfl := bA_ext.2 h2
  simp only [List.cons.injEq, true_and] at k2
  have k2 := List.append_cancel_left k2
  simp only [List.cons.injEq, true_and] at k2
  obtain ⟨h3, k3⟩ := no_cut (wrd_no ft) (wrd_no gt) k2
  obtain rfl := wrd_inj hf.2.1 hg.2.1 h3
  obtain ⟨rfl, k4⟩ := samT_cut hf.2.2 hg.2.2 hx hy k3
  exact ⟨rfl, k4⟩
theorem txtT_inj : ∀ {l m : List FaD}, (∀ f ∈ l, faOK f) → (∀ f ∈ m, faOK f) → txtT l = txtT m → l = m
  | [], [], _, _, _ => rfl
  | [], g :: m, _, _, h => by simp [txtT, famT, hdH] at h
  | f :: l, [], _, _, h => by simp [txtT, famT, hdH] at h
  | f :: l, g :: m, hl, hm, h => by
    rw [show txtT (f :: l) = famT f ++ txtT l from rfl, show txtT (g :: m) = famT g ++ txtT m from rfl] at h
    obtain ⟨rfl, k1⟩ := famT_cut (hl f (by simp)) (hm g (by simp)) (txt_stop l) (txt_stop m) h
    rw [txtT_inj (fun r hr => hl r (by simp [hr])) (fun r hr => hm r (by simp [hr])) k1]

/- How many lines. -/
def nlN (l : Tx) : Nat := l.count 10
theorem nlN_no {l : Tx} (h : 10 ∉ l) : nlN l = 0 := List.count_eq_zero.2 h
theorem nlN_app (a b : Tx) : nlN (a ++ b) = nlN a + nlN b := List.count_append
theorem nlN_cons (c : UInt8) (a : Tx) : nlN (c :: a) = nlN a + if c = 10 then 1 else 0 := by simp [nlN, List.count_cons]
theorem nm_no10 {s : ByteArray} (h : nmOK s) : 10 ∉ s.data.toList := fun hm => (h.2 10 hm).1 rfl
theorem labC_no {p : LaD} (h : laOK p) : 10 ∉ labC p := by
  unfold labC
  simp only [List.mem_append, List.mem_cons, List.not_mem_nil, or_false]
  rintro (h1 | h1 | h1 | h1 | h1)
  · exact nm_no10 h h1
  · revert h1; decide
  · revert h1; decide
  · exact valT_no _ h1
  · revert h1; decide
theorem labT_no {l : List LaD} (h : ∀ p ∈ l, laOK p) : 10 ∉ labT l := by
  cases l with
  | nil => simp [labT]
  | cons p l =>
    simp only [labT, List.cons_append, List.mem_cons, List.mem_append, List.mem_flatMap]
    rintro (h1 | h1 | ⟨q, hq, h1 | h1⟩)
    · revert h1; decide
    · exact labC_no (h p (by simp)) h1
    · revert h1; decide
    · exact labC_no (h q (by simp [hq])) h1
theorem linT_no {x : SmD} (h : smOK x) : 10 ∉ linT x := by
  unfold linT
  simp only [List.mem_append, List.mem_cons]
  rintro (((h1 | h1) | h1) | h1 | h1)
  · exact nm_no10 h.1 h1
  · exact labT_no h.2 h1
  · revert h1; split <;> decide
  · revert h1; decide
  · exact itoa_no10 _ h1
theorem samT_nl : ∀ {l : List SmD}, (∀ a ∈ l, smOK a) → nlN (samT l) = l.length
  | [], _ => rfl
  | a :: l, h => by
    rw [show samT (a :: l) = (linT a ++ [10]) ++ samT l from rfl, nlN_app, nlN_app, samT_nl (fun r hr => h r (by simp [hr])), nlN_no (linT_no (h a (by simp)))]
    simp [nlN]; omega
theorem famT_nl {f : FaD} (h : faOK f) : nlN (famT f) = 2 + f.ss.length := by
  have h1 := nlN_no (nm_no10 h.1)
  have h2 := nlN_no (hlpT_no f.hp.data.toList)
  have h3 := nlN_no (wrd_no f.ty)
  simp only [famT, hdH, hdT, nlN_app, nlN_cons, h1, h2, h3, samT_nl h.2.2]
  simp [nlN]
def lns (l : List FaD) : Nat := (l.map fun f => 2 + f.ss.length).sum
theorem txtT_nl : ∀ {l : List FaD}, (∀ f ∈ l, faOK f) → nlN (txtT l) = lns l
  | [], _ => rfl
  | f :: l, h => by
    rw [show txtT (f :: l) = famT f ++ txtT l from rfl, nlN_app, famT_nl (h f (by simp)), txtT_nl (fun r hr => h r (by simp [hr]))]
    simp [lns]
theorem samT_last : ∀ (l : List SmD), samT l = [] ∨ ∃ r, samT l = r ++ [10]
  | [] => .inl rfl
  | a :: l => by
    rw [show samT (a :: l) = (linT a ++ [10]) ++ samT l from rfl]
    rcases samT_last l with h | ⟨r, h⟩
    · exact .inr ⟨linT a, by rw [h, List.append_nil]⟩
    · exact .inr ⟨linT a ++ [10] ++ r, by rw [h]; simp⟩
theorem famT_last (f : FaD) : ∃ r, famT f = r ++ [10] := by
  unfold famT
  rcases samT_last f.ss with h | ⟨r, h⟩
  · rw [h, List.append_nil]
    exact ⟨hdH f ++ (35 :: 32 :: 84 :: 89 :: 80 :: 69 :: 32 :: (f.nm.data.toList ++ 32 :: wrdT f.ty)), by simp [hdT]⟩
  · exact ⟨hdH f ++ hdT f ++ r, by rw [h]; simp⟩
theorem txtT_last : ∀ (l : List FaD), txtT l = [] ∨ ∃ r, txtT l = r ++ [10]
  | [] => .inl rfl
  | f :: l => by
    rw [show txtT (f :: l) = famT f ++ txtT l from rfl]
    rcases txtT_last l with h | ⟨r, h⟩
    · obtain ⟨r, e⟩ := famT_last f
      exact .inr ⟨r, by rw [h, e, List.append_nil]⟩
    · exact .inr ⟨famT f ++ r, by rw [h]; simp⟩

/-- The bytes that names have. -/
def nmC (c : UInt8) : Prop := (97 ≤ c.toNat ∧ c.toNat ≤ 122) ∨ (65 ≤ c.toNat ∧ c.toNat ≤ 90) ∨ c.toNat = 95 ∨ (48 ≤ c.toNat ∧ c.toNat ≤ 57)
instance (c : UInt8) : Decidable (nmB c) := inferInstanceAs (Decidable (_ ∧ _ ∧ _ ∧ _ ∧ _ ∧ _ ∧ _ ∧ _))
theorem nmC_B {c : UInt8} (h : nmC c) : nmB c := by
  unfold nmC at h
  refine ⟨?_, ?_, ?_, ?_, ?_, ?_, ?_, ?_⟩ <;> (rintro rfl; revert h; decide)
theorem badC_nm {s : ByteArray} {i : Nat} (h : i < s.size) (hb : badC s (i : Int) = false) : nmC (s[i]'h) := by
  have hs : sbyte s (i : Int) = ((s[i]'h).toNat : Int) := by
    unfold sbyte
    have : s.data.getD i 0 = s[i]'h := by
      rw [Array.getD_eq_getD_getElem?, Array.getElem?_eq_getElem h]; rfl
    simpa using congrArg (fun c : UInt8 => (c.toNat : Int)) this
  unfold badC at hb
  rw [hs] at hb
  generalize (s[i]'h) = c at hb
  unfold nmC
  by_cases h1 : 97 ≤ c.toNat ∧ c.toNat ≤ 122
  · exact .inl h1
  · by_cases h2 : 65 ≤ c.toNat ∧ c.toNat ≤ 90
    · exact .inr (.inl h2)
    · by_cases h3 : c.toNat = 95
      · exact .inr (.inr (.inl h3))
      · by_cases h4 : 48 ≤ c.toNat ∧ c.toNat ≤ 57
        · exact .inr (.inr (.inr h4))
        · exfalso
          have e1 : bpick (ige (c.toNat : Int) 97) (ile (c.toNat : Int) 122) false = false := by
            simp [bpick, ige, ile]; omega
          have e2 : bpick (ige (c.toNat : Int) 65) (ile (c.toNat : Int) 90) false = false := by
            simp [bpick, ige, ile]; omega
          have e3 : ieq (c.toNat : Int) 95 = false := by simp [ieq]; omega
          have e4 : bpick (ige (c.toNat : Int) 48) (ile (c.toNat : Int) 57) false = false := by
            simp [bpick, ige, ile]; omega
          rw [e1, e2, e3, e4] at hb
          simp [bpick, bnot] at hb
theorem namP_C {s : ByteArray} (h : namP s) : ∀ u ∈ s.data.toList, nmC u := by
  intro u hu
  obtain ⟨i, hi, rfl⟩ := List.mem_iff_getElem.1 hu
  have hi' : i < s.size := by simpa using hi
  have : nmC (s.data[i]'hi') := badC_nm hi' (h.2 i hi')
  simpa using this
theorem namP_OK {s : ByteArray} (h : namP s) : nmOK s := by
  refine ⟨fun e => ?_, fun u hu => nmC_B (namP_C h u hu)⟩
  have := congrArg List.length e
  rw [Array.length_toList] at this
  have h1 := h.1.1
  have : s.size = 0 := this
  omega
theorem app_OK {a b : ByteArray} (ha : nmOK a) (hb : ∀ u ∈ b.data.toList, nmB u) : nmOK (a ++ b) := by
  have e : (a ++ b).data.toList = a.data.toList ++ b.data.toList := by simp
  refine ⟨fun h => ha.1 ?_, fun u hu => ?_⟩
  · rw [e] at h; exact (List.append_eq_nil_iff.1 h).1
  · rw [e] at hu
    rcases List.mem_append.1 hu with h | h
    · exact ha.2 u h
    · exact hb u h
/-- The names of a right family's samples. -/
theorem fam_name {f : FaD} (hf : famP f) {x : SmD} (hx : x ∈ f.ss) : x.nm = f.nm ∨ x.nm = f.nm ++ bucN ∨ x.nm = f.nm ++ sumN ∨ x.nm = f.nm ++ couN := by
  obtain ⟨_, _, h⟩ := hf
  split at h
  · obtain ⟨j, hj, rfl⟩ := List.mem_iff_getElem.1 hx
    have hk := h (j / 11) (by omega)
    have hg : gat (grpS f.ss (j / 11)) (j % 11) = f.ss[j] := by
      rw [gat_grp (by omega), show 11 * (j / 11) + j % 11 = j by omega, gat_get hj]
    obtain ⟨_, h1, _, h2, _, h3, _⟩ := hk
    have hr : j % 11 < 9 ∨ j % 11 = 9 ∨ j % 11 = 10 := by omega
    rcases hr with hr | hr | hr
    · have := (h1 _ hr).1
      rw [hg] at this
      exact .inr (.inl this)
    · rw [hr] at hg; rw [hg] at h2; exact .inr (.inr (.inl h2))
    · rw [hr] at hg; rw [hg] at h3; exact .inr (.inr (.inr h3))
  · exact .inl (h x hx).1
theorem fam_OK {f : FaD} (hf : famP f) : faOK f := by
  have hn := namP_OK hf.1.1
  refine ⟨hn, hf.1.2.2.1, fun x hx => ⟨?_, fun p hp => ?_⟩⟩
  · rcases fam_name hf hx with e | e | e | e
    · rw [e]; exact hn
    · rw [e]; exact app_OK hn (by decide)
    · rw [e]; exact app_OK hn (by decide)
    · rw [e]; exact app_OK hn (by decide)
  · obtain ⟨k, hk, rfl⟩ := List.mem_iff_getElem.1 hp
    exact namP_OK ((hf.2.1 x hx).2 k hk hk).1
theorem all_OK {l : List FaD} (h : allP l) : ∀ f ∈ l, faOK f := by
  intro f hf
  obtain ⟨k, hk, rfl⟩ := List.mem_iff_getElem.1 hf
  exact fam_OK (h.2 k hk hk).1

/- How long the texts are. -/
theorem flat_bound {α : Type} (g : α → Tx) (n : Nat) : ∀ l : List α, (∀ a ∈ l, (g a).length ≤ n) → (l.flatMap g).length ≤ l.length * n
  | [], _ => by simp
  | a :: l, h => by
    have := flat_bound g n l (fun b hb => h b (by simp [hb]))
    have := h a (by simp)
    rw [List.flatMap_cons, List.length_append, List.length_cons, Nat.succ_mul]
    omega
theorem eV_len (c : UInt8) : (eV c).length ≤ 2 := by unfold eV; split; · simp
                                                     · split; · simp
                                                       · split <;> simp
theorem eH_len (c : UInt8) : (eH c).length ≤ 2 := by unfold eH; split; · simp
                                                     · split <;> simp
theorem valT_len (l : Tx) : (valT l).length ≤ l.length * 2 := flat_bound eV 2 l fun c _ => eV_len c
theorem hlpT_len (l : Tx) : (hlpT l).length ≤ l.length * 2 := flat_bound eH 2 l fun c _ => eH_len c
def i64 (n : Int) : Prop := -9223372036854775808 ≤ n ∧ n ≤ 9223372036854775807
theorem tl_size (s : ByteArray) : s.data.toList.length = s.size := Array.length_toList
theorem labC_len {p : LaD} {a b : Nat} (h1 : p.1.size ≤ a) (h2 : p.2.size ≤ b) : (labC p).length ≤ a + 2 * b + 3 := by
  have := valT_len p.2.data.toList
  rw [tl_size] at this
  unfold labC
  simp only [List.length_append, List.length_cons, List.length_nil, tl_size]
  omega
theorem labT_bound {l : List LaD} {n : Nat} (h : ∀ p ∈ l, (labC p).length ≤ n) : (labT l).length ≤ l.length * (n + 1) := by
  cases l with
  | nil => simp [labT]
  | cons p l =>
    have h1 := h p (by simp)
    have h2 := flat_bound (fun q => 44 :: labC q) (n + 1) l (fun q hq => by have := h q (by simp [hq]); simp; omega)
    simp only [labT, List.length_append, List.length_cons, Nat.succ_mul]
    omega
theorem linT_len {x : SmD} {n m : Nat} (hv : i64 x.v) (hn : x.nm.size ≤ n) (hl : (labT x.ls).length ≤ m) : (linT x).length ≤ n + m + 23 := by
  have := Lib.itoa_length_le x.v hv.1 hv.2
  unfold linT
  simp only [List.length_append, List.length_cons, tl_size]
  split <;> simp <;> omega
def rgF (f : FaD) : Prop := ∀ x ∈ f.ss, i64 x.v
theorem fam_lin {f : FaD} (hf : famP f) (hr : rgF f) : ∀ x ∈ f.ss, (linT x).length ≤ 5000 := by
  intro x hx
  have h1 : x.nm.size ≤ 71 := by
    have h0 := hf.1.1.1.2
    have ap : ∀ b : ByteArray, (f.nm ++ b).size = f.nm.size + b.size := fun b => ByteArray.size_append
    rcases fam_name hf hx with e | e | e | e
    · rw [e]; omega
    · rw [e, ap]; have : bucN.size = 7 := rfl; omega
    · rw [e, ap]; have : sumN.size = 4 := rfl; omega
    · rw [e, ap]; have : couN.size = 6 := rfl; omega
  have h2 := hf.2.1 x hx
  have h3 : (labT x.ls).length ≤ x.ls.length * (467 + 1) := labT_bound fun p hp => by
    obtain ⟨k, hk, rfl⟩ := List.mem_iff_getElem.1 hp
    have h4 := h2.2 k hk hk
    have := labC_len (p := x.ls[k]) h4.1.1.2 h4.2.1
    omega
  have h5 := h2.1
  have := linT_len (n := 71) (m := 3744) (hr x hx) h1 (by omega)
  omega
theorem fam_len {f : FaD} (hf : famP f) (hr : rgF f) : (famT f).length ≤ 2100000 := by
  have h1 := flat_bound (fun x => linT x ++ [10]) 5001 f.ss (fun x hx => by have := fam_lin hf hr x hx; simp; omega)
  have h2 := hf.1.2.2.2.2
  have h3 := hlpT_len f.hp.data.toList
  rw [tl_size] at h3
  have h4 := hf.1.2.1
  have h5 := hf.1.1.1.2
  have h6 : (wrdT f.ty).length ≤ 9 := by unfold wrdT; split; · simp
                                         · split <;> simp
  unfold famT hdH hdT samT
  simp only [List.length_append, List.length_cons, List.length_nil, tl_size]
  have : f.ss.length * 5001 ≤ 400 * 5001 := Nat.mul_le_mul_right _ h2
  omega
theorem txt_len {l : List FaD} (h : allP l) (hr : ∀ f ∈ l, rgF f) : (txtT l).length ≤ 100000000 := by
  have h1 := flat_bound famT 2100000 l (fun f hf => by
    obtain ⟨k, hk, rfl⟩ := List.mem_iff_getElem.1 hf
    exact fam_len (h.2 k hk hk).1 (hr _ hf))
  have : l.length * 2100000 ≤ 40 * 2100000 := Nat.mul_le_mul_right _ h.1
  have e : (txtT l).length = (l.flatMap famT).length := rfl
  omega
end Go.Proofs.YtknnooannohflaaGreatDoor.Exp
