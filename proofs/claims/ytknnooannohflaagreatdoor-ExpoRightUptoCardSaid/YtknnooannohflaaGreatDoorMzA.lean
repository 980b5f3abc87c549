/- Layer 26: groups of a histogram, families that are right. -/
import Derived.Test.YtknnooannohflaaGreatDoorMezN
import Derived.Test.YtknnooannohflaaGreatDoorMeD
import Derived.Test.YtknnooannohflaaGreatDoorMeC
namespace Go.Proofs.YtknnooannohflaaGreatDoor.Met
open Go Go.Px Go.Proofs Go.Proofs.YtknnooannohflaaGreatDoor.Cmp Go.Proofs.YtknnooannohflaaGreatDoor.St
set_option maxRecDepth 100000
set_option linter.unusedVariables false

/-- The bounds' texts. -/
def bndT : List ByteArray := [bo0, bo1, bo2, bo3, bo4, bo5, bo6, bo7, bo8]
def bnd (k : Nat) : ByteArray := bndT.getD k ByteArray.empty
def gat (g : List SmD) (i : Nat) : SmD := g.getD i ⟨ByteArray.empty, [], 0⟩
/-- The value ahead of the i-th bucket's. -/
def prv (g : List SmD) (i : Nat) : Int := if i = 0 then 0 else (gat g (i - 1)).v
def bkP (n : ByteArray) (base : List LaD) (g : List SmD) (i : Nat) : Prop := (gat g i).nm = n ++ bucN ∧ (gat g i).ls = base ++ [(leN, bnd i)] ∧ prv g i ≤ (gat g i).v
instance (n : ByteArray) (base : List LaD) (g : List SmD) (i : Nat) : Decidable (bkP n base g i) := inferInstanceAs (Decidable (_ ∧ _))
def growP (n : ByteArray) (g : List SmD) : Prop := ∀ i : Nat, i < 9 → bkP n (gat g 10).ls g i
instance (n : ByteArray) (g : List SmD) : Decidable (growP n g) := inferInstanceAs (Decidable (∀ i : Nat, i < 9 → _))
def grpP (n : ByteArray) (g : List SmD) : Prop := g.length = 11 ∧ growP n g ∧ hasB (gat g 10).ls leN = false ∧ (gat g 9).nm = n ++ sumN ∧ (gat g 9).ls = (gat g 10).ls ∧ (gat g 10).nm = n ++ couN ∧ (gat g 10).v = (gat g 8).v
instance (n : ByteArray) (g : List SmD) : Decidable (grpP n g) := inferInstanceAs (Decidable (_ ∧ _))

theorem rget_gat (g : List SmD) (i : Int) (h0 : 0 ≤ i) (h : i < g.length) : rget (smR g) i = SmD.row (gat g i.toNat) := by
  rw [rget_mapI SmD.row g i h0 h]
  unfold gat
  rw [List.getD_eq_getElem?_getD, List.getElem?_eq_getElem (by omega)]
  rfl

theorem gat_mem {g : List SmD} {i : Nat} (h : i < g.length) : gat g i ∈ g := by
  unfold gat
  rw [List.getD_eq_getElem?_getD, List.getElem?_eq_getElem h]
  exact List.getElem_mem h

theorem last_split {l base : List LaD} {p : LaD} : l = base ++ [p] ↔ 0 < l.length ∧ (∃ h : l.length - 1 < l.length, l[l.length - 1] = p) ∧ l.take (l.length - 1) = base := by
  constructor
  · rintro rfl
    refine ⟨by simp, ⟨by simp, by simp⟩, by simp⟩
  · rintro ⟨h1, ⟨h2, h3⟩, h4⟩
    have := List.take_append_drop (l.length - 1) l
    rw [h4, List.drop_eq_getElem_cons h2, List.drop_eq_nil_of_le (by omega), h3] at this
    exact this.symm

theorem growing_fn (n : ByteArray) (g : List SmD) (hg : g.length = 11) (hn : n.size ≤ 1000) (hl : ∀ x ∈ g, x.ls.length ≤ 1000) : Ct Tryz.prog 95 {} [S n, SL 3 (smR g)] (fun r => r = [B (decide (growP n g))]) := by
  have hlen : rlen (smR g) = 11 := by rw [rlen_eq, List.length_map, hg]; rfl
  have hs9 : rsub (smR g) 0 9 = smR (g.take 9) := by simp [rsub, List.map_take]
  have hl9 : rlen (smR (g.take 9)) = 9 := by rw [rlen_eq, List.length_map, List.length_take, hg]; rfl
  refine mgrow_nf _ _ _ ⟨⟨by decide, by rw [hlen]; decide⟩, _, _, _, rget_gat g 10 (by decide) (by rw [hg]; decide), ⟨by decide, by decide, by rw [hlen]; decide⟩, ?_⟩
  rw [hs9, hl9]
  refine ⟨fun _ x1 x2 => (0 ≤ x2 ∧ x2 ≤ 9) ∧ x1 = prv g x2.toNat ∧ ∀ k < x2.toNat, bkP n (gat g 10).ls g k, fun _ _ x2 => (9 - x2).toNat, ⟨by omega, rfl, fun k hk => absurd hk (by simp)⟩, ?_⟩
  rintro b x1 i ⟨⟨i0, i9⟩, rfl, hp⟩
  refine ifB_intro (fun hi => ?_) (fun hi => ?_)
  · have hi : i < 9 := by simpa using hi
    have hi' : i.toNat < g.length := by omega
    have hgt : gat (g.take 9) i.toNat = gat g i.toNat := by
      unfold gat
      rw [List.getD_eq_getElem?_getD, List.getD_eq_getElem?_getD, List.getElem?_take, if_pos (by omega)]
    have row := rget_gat (g.take 9) i i0 (by rw [List.length_take, hg]; omega)
    rw [hgt] at row
    have hx := hl _ (gat_mem hi')
    have no : ¬ bkP n (gat g 10).ls g i.toNat → ([B false] : List SV) = [B (decide (growP n g))] := fun h => by
      have : ¬ growP n g := fun e => h (e _ (by omega))
      simp [this]
    refine ⟨⟨i0, hi⟩, _, _, _, row, by show (n.size : Int) + ((7 : Nat) : Int) ≤ 9223372036854775807; omega, ?_⟩
    rw [rlen_eq, List.length_map, wsub_i64 (by omega) (by omega)]
    refine ifB_intro (fun h => ?_) (fun h => ?_)
    · refine no fun e => ?_
      rw [sne_d] at h
      have h : ¬ (gat g i.toNat).nm = n ++ bucN ∨ ((gat g i.toNat).ls.length : Int) - 1 < 0 ∨ (gat g i.toNat).v < prv g i.toNat := by
        have := bor_t.1 h
        rcases this with h | h
        · rcases bor_t.1 h with h | h
          · exact .inl (by simpa using h : ¬ (gat g i.toNat).nm = scat n bucN)
          · exact .inr (.inl (by simpa using h))
        · exact .inr (.inr (by simpa using h))
      rcases h with h | h | h
      · exact h e.1
      · have := (last_split.1 e.2.1).1; omega
      · have := e.2.2; omega
    · rw [sne_d] at h
      have h : (gat g i.toNat).nm = n ++ bucN ∧ 0 ≤ ((gat g i.toNat).ls.length : Int) - 1 ∧ prv g i.toNat ≤ (gat g i.toNat).v := by
        obtain ⟨h1, h2⟩ := bor_f.1 h
        obtain ⟨h3, h4⟩ := bor_f.1 h1
        exact ⟨(by simpa using h3 : (gat g i.toNat).nm = scat n bucN), by simpa using h4, by simpa using h2⟩
      obtain ⟨h1, h2, h3⟩ := h
      have hpos : 0 < (gat g i.toNat).ls.length := by omega
      have hlt : (gat g i.toNat).ls.length - 1 < (gat g i.toNat).ls.length := by omega
      have etn : (((gat g i.toNat).ls.length : Int) - 1).toNat = (gat g i.toNat).ls.length - 1 := by omega
      refine ⟨⟨h2, by omega⟩, ((gat g i.toNat).ls[(gat g i.toNat).ls.length - 1]).1, ((gat g i.toNat).ls[(gat g i.toNat).ls.length - 1]).2, ?_, ⟨i0, hi⟩, ?_⟩
      · have := rget_mapI (fun p : LaD => [S p.1, S p.2]) (gat g i.toNat).ls _ h2 (by omega)
        simp only [etn] at this
        exact this
      have key : ∀ k : Nat, k < 9 → i = (k : Int) → ifB (bnot (band (seq ((gat g i.toNat).ls[(gat g i.toNat).ls.length - 1]).1 leN) (band (seq ((gat g i.toNat).ls[(gat g i.toNat).ls.length - 1]).2 (bnd k)) true))) ([B false] = [B (decide (growP n g))])
          (((0 : Int) ≤ 0 ∧ (0 : Int) ≤ ((gat g i.toNat).ls.length : Int) - 1 ∧ ((gat g i.toNat).ls.length : Int) - 1 ≤ ((gat g i.toNat).ls.length : Int)) ∧
            Cl Tryz.prog 82 sP [SL 2 (rsub (laR (gat g i.toNat).ls) 0 (((gat g i.toNat).ls.length : Int) - 1)), SL 2 (laR (gat g 10).ls)] fun rs => ∃ b1, rs = [B b1] ∧ ifB (bnot b1) ([B false] = [B (decide (growP n g))])
              (((Option.some [] : Option (List (List SV))) = Option.some []) ∧ (((0 ≤ wadd .i64 i 1 ∧ wadd .i64 i 1 ≤ 9) ∧ (gat g i.toNat).v = prv g (wadd .i64 i 1).toNat ∧ ∀ k < (wadd .i64 i 1).toNat, bkP n (gat g 10).ls g k) ∧ Nat.le (Nat.succ (9 - wadd .i64 i 1).toNat) (9 - i).toNat))) := by
        intro k hk9 ek
        have eki : k = i.toNat := by omega
        rw [labB]
        refine ifB_intro (fun h => ?_) (fun h => ?_)
        · refine no fun e => ?_
          obtain ⟨_, ⟨_, e2⟩, _⟩ := last_split.1 e.2.1
          have h : ¬ ((gat g i.toNat).ls[(gat g i.toNat).ls.length - 1]) = (leN, bnd k) := fun e => by rw [e] at h; simp at h
          exact h (by rw [e2, eki])
        · have h : ((gat g i.toNat).ls[(gat g i.toNat).ls.length - 1]) = (leN, bnd k) := by simpa [Prod.ext_iff] using h
          refine ⟨⟨by decide, h2, by omega⟩, ?_⟩
          have e1 : rsub (laR (gat g i.toNat).ls) 0 (((gat g i.toNat).ls.length : Int) - 1) = laR ((gat g i.toNat).ls.take ((gat g i.toNat).ls.length - 1)) := by
            simp [rsub, List.map_take]
          rw [e1]
          refine Cl.of (eql_fn _ _ (by rw [List.length_take]; omega)) ⟨_, rfl, ifB_intro (fun h4 => ?_) (fun h4 => ?_)⟩
          · refine no fun e => ?_
            have h4 : ¬ (gat g i.toNat).ls.take ((gat g i.toNat).ls.length - 1) = (gat g 10).ls := by simpa using h4
            exact h4 (last_split.1 e.2.1).2.2
          · have h4 : (gat g i.toNat).ls.take ((gat g i.toNat).ls.length - 1) = (gat g 10).ls := by simpa using h4
            rw [wadd_i64 (by omega) (by omega)]
            have e3 : (i + 1).toNat = i.toNat + 1 := by omega
            refine ⟨rfl, ⟨by omega, ?_, ?_⟩, mlt (by omega)⟩
            · rw [e3]; simp [prv]
            · intro q hq
              rw [e3] at hq
              by_cases eq : q = i.toNat
              · subst eq
                exact ⟨h1, last_split.2 ⟨hpos, ⟨hlt, by rw [h, eki]⟩, h4⟩, h3⟩
              · exact hp q (by omega)
      exact ⟨fun e => key 0 (by decide) e, fun e => key 1 (by decide) e, fun e => key 2 (by decide) e, fun e => key 3 (by decide) e, fun e => key 4 (by decide) e, fun e => key 5 (by decide) e, fun e => key 6 (by decide) e, fun e => key 7 (by decide) e, fun e => key 8 (by decide) e, trivial⟩
  · have hi : 9 ≤ i := by simpa using hi
    have : growP n g := fun k hk => hp k (by omega)
    simp [this]

/-- The k-th group of eleven. -/
def grpS (l : List SmD) (k : Nat) : List SmD := (l.drop (11 * k)).take 11
theorem grpAt_smR (l : List SmD) (k : Int) : grpAt (smR l) k = smR (grpS l k.toNat) := by
  simp only [grpAt, grpS, smR, List.map_take, List.map_drop]
/-- All groups are right. -/
def grpsP (n : ByteArray) (l : List SmD) : Prop := ∀ k : Nat, k < (l.length + 10) / 11 → grpP n (grpS l k)
instance (n : ByteArray) (l : List SmD) : Decidable (grpsP n l) := inferInstanceAs (Decidable (∀ k : Nat, k < (l.length + 10) / 11 → _))

theorem grouped_fn (f : FaD) (hn : f.nm.size ≤ 1000) (hl : ∀ x ∈ f.ss, x.ls.length ≤ 1000) : Ct Tryz.prog 55 {} [.agg f.row] (fun r => r = [B (decide (grpsP f.nm f.ss))]) := by
  refine mgrp_nf _ _ _ _ _ (Cl.of (R := [SV.clo 146 [SV.ref 0 [SL 3 (smR f.ss)]]]) (mgroups_nf _ _ rfl) ⟨_, _, rfl, rfl, smR f.ss, rfl, ?_⟩)
  have hN : grpN (smR f.ss) = (((f.ss.length + 10) / 11 : Nat) : Int) := by
    show (((smR f.ss).length : Int) + 10) / 11 = _
    rw [List.length_map]; omega
  refine ⟨fun x b => b = false ∧ (∀ k : Nat, (k : Int) < x → grpP f.nm (grpS f.ss k)), fun b => b = false ∧ ¬ grpsP f.nm f.ss, ⟨rfl, fun k hk => by omega⟩, ?_, ?_, ?_⟩
  · rintro x x0 hx b ⟨rfl, hp⟩
    rw [hN] at hx
    rw [grpAt_smR]
    obtain ⟨g, hgd⟩ : ∃ g, g = grpS f.ss x.toNat := ⟨_, rfl⟩
    rw [← hgd]
    have hm : ∀ y ∈ g, y ∈ f.ss := fun y hy => by
      rw [hgd] at hy
      exact List.mem_of_mem_drop (List.mem_of_mem_take hy)
    have no : ¬ grpP f.nm g → (false = false ∧ ¬ grpsP f.nm f.ss) := fun h => ⟨rfl, fun e => h (by rw [hgd]; exact e _ (by omega))⟩
    refine ifB_intro (fun h => ?_) (fun h => ?_)
    · have h : ¬ (g.length : Int) = 11 := by simpa using h
      exact ⟨rfl, no fun e => by have := e.1; omega⟩
    have h11 : g.length = 11 := by
      have h : (g.length : Int) = 11 := by simpa using h
      omega
    have hlen : rlen (smR g) = 11 := by rw [rlen_eq, List.length_map, h11]; rfl
    have hlg : ∀ y ∈ g, y.ls.length ≤ 1000 := fun y hy => hl y (hm y hy)
    refine Cl.of (growing_fn f.nm g h11 hn hlg) ⟨_, rfl, ifB_intro (fun h => ?_) (fun h => ?_)⟩
    · have h : ¬ growP f.nm g := by simpa using h
      exact ⟨rfl, no fun e => h e.2.1⟩
    have hgr : growP f.nm g := by simpa using h
    refine ⟨⟨by decide, by rw [hlen]; decide⟩, _, _, _, rget_gat g 10 (by decide) (by rw [h11]; decide), ?_⟩
    refine Cl.of (has_fn (gat g 10).ls (by have := hlg _ (gat_mem (g := g) (i := 10) (by omega)); omega) leN) ⟨_, rfl, ifB_intro (fun h => ?_) (fun hh => ?_)⟩
    · exact ⟨rfl, no fun e => by rw [e.2.2.1] at h; cases h⟩
    refine ⟨fun s l x2 s2 l3 x3 => s = (gat g 9).nm ∧ l = laR (gat g 9).ls ∧ x2 = (gat g 9).v ∧ s2 = (gat g 10).nm ∧ l3 = laR (gat g 10).ls ∧ x3 = (gat g 10).v, fun _ _ _ _ _ _ => 0, ?_, ?_⟩
    · exact ⟨⟨by decide, by rw [hlen]; decide⟩, _, _, _, rget_gat g 9 (by decide) (by rw [h11]; decide), ⟨by decide, by rw [hlen]; decide⟩, _, _, _, rget_gat g 10 (by decide) (by rw [h11]; decide), ⟨rfl, rfl, rfl, rfl, rfl, rfl, rfl⟩, ⟨rfl, rfl, rfl, rfl, rfl, rfl, rfl⟩⟩
    rintro s l x2 s2 l3 x3 ⟨rfl, rfl, rfl, rfl, rfl, rfl⟩
    refine ⟨by show (f.nm.size : Int) + ((4 : Nat) : Int) ≤ 9223372036854775807; omega, ifB_intro (fun h => ?_) (fun h => ?_)⟩
    · rw [sne_d] at h
      have h : ¬ (gat g 9).nm = f.nm ++ sumN := (by simpa using h : ¬ (gat g 9).nm = scat f.nm sumN)
      exact ⟨rfl, no fun e => h e.2.2.2.1⟩
    rw [sne_d] at h
    have h9 : (gat g 9).nm = f.nm ++ sumN := (by simpa using h : (gat g 9).nm = scat f.nm sumN)
    refine Cl.of (eql_fn _ _ (by have := hlg _ (gat_mem (g := g) (i := 9) (by omega)); omega)) ⟨_, rfl, ifB_intro (fun h => ?_) (fun h => ?_)⟩
    · have h : ¬ (gat g 9).ls = (gat g 10).ls := by simpa using h
      exact ⟨rfl, no fun e => h e.2.2.2.2.1⟩
    have hls : (gat g 9).ls = (gat g 10).ls := by simpa using h
    refine ⟨by show (f.nm.size : Int) + ((6 : Nat) : Int) ≤ 9223372036854775807; omega, ifB_intro (fun h => ?_) (fun h => ?_)⟩
    · rw [sne_d] at h
      have h : ¬ (gat g 10).nm = f.nm ++ couN := (by simpa using h : ¬ (gat g 10).nm = scat f.nm couN)
      exact ⟨rfl, no fun e => h e.2.2.2.2.2.1⟩
    rw [sne_d] at h
    have h10 : (gat g 10).nm = f.nm ++ couN := (by simpa using h : (gat g 10).nm = scat f.nm couN)
    refine ⟨⟨by decide, by rw [hlen]; decide⟩, _, _, _, rget_gat g 8 (by decide) (by rw [h11]; decide), ifB_intro (fun h => ?_) (fun h => ?_)⟩
    · have h : ¬ (gat g 10).v = (gat g 8).v := by simpa using h
      exact ⟨rfl, no fun e => h e.2.2.2.2.2.2⟩
    have hv : (gat g 10).v = (gat g 8).v := by simpa using h
    refine ⟨rfl, rfl, fun k hk => ?_⟩
    have hk : (k : Int) < x + 1 := hk
    by_cases e : k = x.toNat
    · rw [e, ← hgd]
      exact ⟨h11, hgr, hh, h9, hls, h10, hv⟩
    · exact hp k (by omega)
  · rintro b ⟨rfl, hp⟩
    have : grpsP f.nm f.ss := fun k hk => hp k (by rw [hN]; omega)
    simp [this]
  · rintro b ⟨rfl, hp⟩
    simp [hp]


/-- The samples of a family that is no histogram. -/
def flatP (n : ByteArray) (l : List SmD) : Prop := ∀ x ∈ l, x.nm = n ∧ hasB x.ls leN = false
instance (n : ByteArray) (l : List SmD) : Decidable (flatP n l) := inferInstanceAs (Decidable (∀ x ∈ l, _ ∧ _))
def labsP (l : List SmD) : Prop := ∀ x ∈ l, labP x.ls
instance (l : List SmD) : Decidable (labsP l) := inferInstanceAs (Decidable (∀ x ∈ l, _))
/-- What must be so of a family ahead of its samples. -/
def headP (f : FaD) : Prop := namP f.nm ∧ f.hp.size ≤ 200 ∧ (1 ≤ f.ty ∧ f.ty ≤ 3) ∧ 1 ≤ f.ss.length ∧ f.ss.length ≤ 400
instance (f : FaD) : Decidable (headP f) := inferInstanceAs (Decidable (_ ∧ _ ∧ (_ ∧ _) ∧ _ ∧ _))
/-- A family that is right. -/
def famP (f : FaD) : Prop := headP f ∧ labsP f.ss ∧ (if f.ty = 3 then grpsP f.nm f.ss else flatP f.nm f.ss)
instance (f : FaD) : Decidable (famP f) := inferInstanceAs (Decidable (_ ∧ _ ∧ (if f.ty = 3 then _ else _)))

theorem right_full (f : FaD) (hl : f.ss.length ≤ 4000000000000000000) : Ct Tryz.prog 29 {} [.agg f.row] (fun r => r = [B (decide (famP f))]) := by
  have no : ¬ famP f → ([B false] : List SV) = [B (decide (famP f))] := fun h => by simp [h]
  refine mright_nf _ _ _ _ _ (Cl.of (mnam_fn f.nm) ⟨_, rfl, ?_⟩)
  refine ifB_intro (fun h => ?_) (fun h1 => ?_)
  · have h : ¬ namP f.nm ∨ 200 < (f.hp.size : Int) := by simpa [bor_t, slen, bnot] using h
    refine no fun e => ?_
    rcases h with h | h
    · exact h e.1.1
    · have := e.1.2.1; omega
  have h1 : namP f.nm ∧ (f.hp.size : Int) ≤ 200 := by simpa [bor_f, slen, bnot] using h1
  refine ifB_intro (fun h => ?_) (fun h2 => ?_)
  · have h : f.ty < 1 ∨ 3 < f.ty := by simpa [bor_t] using h
    exact no fun e => by have := e.1.2.2.1; omega
  have h2 : 1 ≤ f.ty ∧ f.ty ≤ 3 := by simpa [bor_f] using h2
  refine ifB_intro (fun h => ?_) (fun h3 => ?_)
  · have h : (f.ss.length : Int) < 1 ∨ 400 < (f.ss.length : Int) := by simpa [bor_t] using h
    exact no fun e => by have := e.1.2.2.2; omega
  have h3 : 1 ≤ (f.ss.length : Int) ∧ (f.ss.length : Int) ≤ 400 := by simpa [bor_f] using h3
  have hh : headP f := ⟨h1.1, by omega, h2, by omega, by omega⟩
  refine ⟨fun _ i => (0 ≤ i ∧ i ≤ f.ss.length) ∧ labsP (f.ss.take i.toNat), fun _ i => (f.ss.length - i).toNat, ⟨by omega, fun x hx => by simp at hx⟩, ?_⟩
  rintro b i ⟨⟨i0, il⟩, hp⟩
  rw [rlen_eq, List.length_map]
  refine ifB_intro (fun hi => ?_) (fun hi => ?_)
  · have hi : i < f.ss.length := by simpa using hi
    have hi' : i.toNat < f.ss.length := by omega
    refine ⟨⟨i0, hi⟩, _, _, _, rget_mapI SmD.row f.ss i i0 hi, Cl.of (labelled_fn f.ss[i.toNat].ls) ⟨_, rfl, ifB_intro (fun h => ?_) (fun h => ?_)⟩⟩
    · have h : ¬ labP f.ss[i.toNat].ls := by simpa using h
      exact no fun e => h (e.2.1 _ (List.getElem_mem hi'))
    · have h : labP f.ss[i.toNat].ls := by simpa using h
      rw [wadd_i64 (by omega) (by omega)]
      refine ⟨rfl, ⟨by omega, fun x hx => ?_⟩, mlt (by dsimp only; omega)⟩
      rw [show (i + 1).toNat = i.toNat + 1 by omega, List.take_add_one, List.getElem?_eq_getElem hi'] at hx
      rcases List.mem_append.1 hx with hx | hx
      · exact hp x hx
      · simp at hx; subst hx; exact h
  have hi : f.ss.length ≤ i := by simpa using hi
  rw [List.take_of_length_le (by omega)] at hp
  have hls : ∀ x ∈ f.ss, x.ls.length ≤ 1000 := fun x hx => Nat.le_trans (hp x hx).1 (by decide)
  refine ifB_intro (fun ht => ?_) (fun ht => ?_)
  · have ht : f.ty = 3 := by simpa using ht
    refine Cl.of (grouped_fn f (Nat.le_trans h1.1.1.2 (by decide)) hls) ⟨_, rfl, ?_⟩
    have : famP f ↔ grpsP f.nm f.ss := by
      unfold famP
      rw [if_pos ht]
      exact ⟨fun e => e.2.2, fun e => ⟨hh, hp, e⟩⟩
    simp [this]
  have ht : ¬ f.ty = 3 := by simpa using ht
  have hfam : famP f ↔ flatP f.nm f.ss := by
    unfold famP
    rw [if_neg ht]
    exact ⟨fun e => e.2.2, fun e => ⟨hh, hp, e⟩⟩
  refine ⟨fun _ i => (0 ≤ i ∧ i ≤ f.ss.length) ∧ flatP f.nm (f.ss.take i.toNat), fun _ i => (f.ss.length - i).toNat, ⟨by omega, fun x hx => by simp at hx⟩, ?_⟩
  rintro b i ⟨⟨i0, il⟩, hq⟩
  refine ifB_intro (fun hi => ?_) (fun hi => ?_)
  · have hi : i < f.ss.length := by simpa using hi
    have hi' : i.toNat < f.ss.length := by omega
    have hm := List.getElem_mem hi'
    refine ⟨⟨i0, hi⟩, _, _, _, rget_mapI SmD.row f.ss i i0 hi, ifB_intro (fun h => ?_) (fun h => ?_)⟩
    · rw [sne_d] at h
      have h : ¬ f.ss[i.toNat].nm = f.nm := by simpa using h
      exact no fun e => h ((hfam.1 e) _ hm).1
    rw [sne_d] at h
    have hn : f.ss[i.toNat].nm = f.nm := by simpa using h
    refine Cl.of (has_fn f.ss[i.toNat].ls (by have := hls _ hm; omega) _) ⟨_, rfl, ifB_intro (fun h => ?_) (fun h => ?_)⟩
    · exact no fun e => by rw [((hfam.1 e) _ hm).2] at h; cases h
    · rw [wadd_i64 (by omega) (by omega)]
      refine ⟨rfl, ⟨by omega, fun x hx => ?_⟩, mlt (by dsimp only; omega)⟩
      rw [show (i + 1).toNat = i.toNat + 1 by omega, List.take_add_one, List.getElem?_eq_getElem hi'] at hx
      rcases List.mem_append.1 hx with hx | hx
      · exact hq x hx
      · simp at hx; subst hx; exact ⟨hn, h⟩
  · have hi : f.ss.length ≤ i := by simpa using hi
    rw [List.take_of_length_le (by omega)] at hq
    have := hfam.2 hq
    simp [this]

/-- Families up to a place are right, and their names grow. -/
def upP (l : List FaD) (n : Nat) : Prop := ∀ k : Nat, k < n → ∀ h : k < l.length, famP l[k] ∧ (0 < k → sge l[k - 1].nm l[k].nm = false)
instance (l : List FaD) (n : Nat) : Decidable (upP l n) := inferInstanceAs (Decidable (∀ k : Nat, k < n → ∀ h : k < l.length, _ ∧ (0 < k → _)))
/-- All families are right. -/
def allP (l : List FaD) : Prop := l.length ≤ 40 ∧ upP l l.length
instance (l : List FaD) : Decidable (allP l) := inferInstanceAs (Decidable (_ ∧ _))

theorem all_full (l : List FaD) (hs : ∀ f ∈ l, f.ss.length ≤ 4000000000000000000) : Ct Tryz.prog 20 {} [SL 4 (faR l)] (fun r => r = [B (decide (allP l))]) := by
  have no : ¬ allP l → ([B false] : List SV) = [B (decide (allP l))] := fun h => by simp [h]
  refine mall_nf _ _ (ifB_intro (fun h => ?_) (fun h => ?_))
  · have h : 40 < (l.length : Int) := by simpa using h
    exact no fun e => by have := e.1; omega
  have h40 : (l.length : Int) ≤ 40 := by simpa using h
  refine ⟨fun _ i => (0 ≤ i ∧ i ≤ l.length) ∧ upP l i.toNat, fun _ i => (l.length - i).toNat, ⟨by omega, fun k hk => absurd hk (by simp)⟩, ?_⟩
  rintro b i ⟨⟨i0, il⟩, hp⟩
  rw [rlen_eq, List.length_map]
  refine ifB_intro (fun hi => ?_) (fun hi => ?_)
  · have hi : i < l.length := by simpa using hi
    have hi' : i.toNat < l.length := by omega
    refine ⟨⟨i0, hi⟩, _, _, _, _, rget_mapI FaD.row l i i0 hi, Cl.of (right_full l[i.toNat] (hs _ (List.getElem_mem hi'))) ⟨_, rfl, ifB_intro (fun h => ?_) (fun h => ?_)⟩⟩
    · have h : ¬ famP l[i.toNat] := by simpa using h
      exact no fun e => h (e.2 _ hi' hi').1
    have hf : famP l[i.toNat] := by simpa using h
    have nx : (0 < i.toNat → sge l[i.toNat - 1].nm l[i.toNat].nm = false) → upP l (i + 1).toNat := by
      intro hg k hk hkl
      by_cases e : k = i.toNat
      · subst e; exact ⟨hf, hg⟩
      · exact hp k (by omega) hkl
    refine ifB_intro (fun h => ?_) (fun h => ?_)
    · have h : 0 < i := by simpa using h
      have e1 : wsub .i64 i 1 = i - 1 := wsub_i64 (by omega) (by omega)
      rw [e1, wadd_i64 (by omega) (by omega)]
      have e2 : (i - 1).toNat = i.toNat - 1 := by omega
      have hr := rget_mapI FaD.row l (i - 1) (by omega) (by omega)
      simp only [e2] at hr
      refine ⟨by omega, _, _, _, _, hr, ifB_intro (fun hs => ?_) (fun hs => ⟨rfl, ⟨by omega, nx fun _ => hs⟩, mlt (by dsimp only; omega)⟩)⟩
      exact no fun e => by
        have := (e.2 i.toNat hi' hi').2 (by omega)
        rw [this] at hs; cases hs
    · have h : i = 0 := by
        have : ¬ 0 < i := by simpa using h
        omega
      rw [wadd_i64 (by omega) (by omega)]
      exact ⟨rfl, ⟨by omega, nx fun h0 => by omega⟩, mlt (by dsimp only; omega)⟩
  · have hi : l.length ≤ i := by simpa using hi
    have : allP l := ⟨by omega, fun k hk hkl => hp k (by omega) hkl⟩
    simp [this]


theorem sign_bad (s : ByteArray) (x : Int) : bpick (bpick (bpick (bpick (ige (sbyte s x) 97) (ile (sbyte s x) 122) false) true (bpick (ige (sbyte s x) 65) (ile (sbyte s x) 90) false)) true (ieq (sbyte s x) 95)) true (bpick (bpick (bnot (ieq x 0)) (ige (sbyte s x) 48) false) (ile (sbyte s x) 57) false) = !badC s x := by
  unfold badC
  generalize bpick (bpick (bpick (ige (sbyte s x) 97) (ile (sbyte s x) 122) false) true (bpick (ige (sbyte s x) 65) (ile (sbyte s x) 90) false)) true (ieq (sbyte s x) 95) = a
  generalize ieq x 0 = z
  generalize ige (sbyte s x) 48 = p
  generalize ile (sbyte s x) 57 = q
  cases a <;> cases z <;> cases p <;> cases q <;> rfl

theorem rnam_fn (s : ByteArray) (hs : s.size ≤ 9000000000000000000) : Ct Tryz.prog 25 {} [S s] (fun r => r = [B (decide (namP s))]) := by
  refine rnamed_nf _ _ ⟨fun _ i => (0 ≤ i ∧ i ≤ s.size) ∧ ∀ k : Nat, (k : Int) < i → badC s (k : Int) = false, fun _ i => (s.size - i).toNat, ⟨by omega, fun k hk => by omega⟩, ?_⟩
  rintro b i ⟨⟨i0, il⟩, hp⟩
  refine ifB_intro (fun hi => ?_) (fun hi => ?_)
  · have hi : i < s.size := by simpa [slen] using hi
    refine ⟨⟨i0, hi⟩, Cl.of (R := [B (!badC s i)]) (rsign_nf _ _ _ (by rw [sign_bad])) ⟨_, rfl, ifB_intro (fun hb => ?_) (fun hb => ?_)⟩⟩
    · have hb : badC s i = true := by simpa using hb
      have : ¬ namP s := fun e => by
        have := e.2 i.toNat (by omega)
        rw [Int.toNat_of_nonneg i0, hb] at this; cases this
      simp [this]
    · have hb : badC s i = false := by simpa using hb
      rw [wadd_i64 (by omega) (by omega)]
      refine ⟨rfl, ⟨by omega, fun k hk => ?_⟩, mlt (by dsimp only; omega)⟩
      by_cases e : (k : Int) = i
      · rw [e]; exact hb
      · exact hp k (by omega)
  · have hi : s.size ≤ i := by simpa [slen] using hi
    have : bpick (igt (slen s) 0) (ile (slen s) 64) false = decide (namP s) := by
      have e : namP s ↔ (0 < s.size ∧ s.size ≤ 64) := ⟨fun e => ⟨e.1.1, e.1.2⟩, fun e => ⟨⟨e.1, e.2⟩, fun k hk => hp k (by omega)⟩⟩
      simp only [bpick_eq, igt_eq, ile_eq, slen_eq]
      by_cases h1 : 0 < s.size <;> by_cases h2 : s.size ≤ 64 <;> simp [e, h1, h2] <;> omega
    rw [this]

theorem hasB_take {l : List LaD} {s : ByteArray} {n : Nat} (h : n < l.length) : hasB (l.take (n + 1)) s = (hasB (l.take n) s || decide (l[n].1 = s)) := by
  unfold hasB
  rw [List.take_add_one, List.getElem?_eq_getElem h, List.any_append]
  simp

theorem rlab_fn (l : List LaD) (hl : l.length ≤ 4000000000000000000) (hz : ∀ p ∈ l, p.1.size ≤ 9000000000000000000) : Ct Tryz.prog 27 {} [SL 2 (laR l)] (fun r => r = [B (decide (labP l))]) := by
  refine rlabelled_nf _ _ ⟨fun _ i => (0 ≤ i ∧ i ≤ l.length) ∧ labUp l i.toNat, fun _ i => (l.length - i).toNat, ⟨by omega, fun k hk => by simp at hk⟩, ?_⟩
  rintro b i ⟨⟨i0, il⟩, hp⟩
  rw [rlen_eq, List.length_map]
  refine ifB_intro (fun hi => ?_) (fun hi => ?_)
  · have hi : i < l.length := by simpa using hi
    have hi' : i.toNat < l.length := by omega
    have row := rget_mapI (fun p : LaD => [S p.1, S p.2]) l i i0 hi
    have no : ¬ (namP l[i.toNat].1 ∧ l[i.toNat].2.size ≤ 200 ∧ hasB (l.take i.toNat) l[i.toNat].1 = false) → ([B false] : List SV) = [B (decide (labP l))] := fun hn => by
      have : ¬ labP l := fun e => hn (e.2 _ hi' hi')
      simp [this]
    refine ⟨⟨i0, hi⟩, _, _, row, Cl.of (rnam_fn l[i.toNat].1 (hz _ (List.getElem_mem hi'))) ⟨_, rfl, ifB_intro (fun h => ?_) (fun h1 => ?_)⟩⟩
    · have h : ¬ namP l[i.toNat].1 := by simpa using h
      exact no fun e => h e.1
    have h1 : namP l[i.toNat].1 := by simpa using h1
    refine ⟨⟨i0, hi⟩, _, _, row, ifB_intro (fun h => ?_) (fun h2 => ?_)⟩
    · have h : 200 < (l[i.toNat].2.size : Int) := by simpa using h
      exact no fun e => by have := e.2.1; omega
    have h2 : (l[i.toNat].2.size : Int) ≤ 200 := by simpa using h2
    refine ⟨fun _ k => (0 ≤ k ∧ k ≤ i) ∧ hasB (l.take k.toNat) l[i.toNat].1 = false, fun _ k => (i - k).toNat, ⟨by omega, rfl⟩, ?_⟩
    rintro b2 k ⟨⟨k0, ki⟩, hq⟩
    refine ifB_intro (fun hk => ?_) (fun hk => ?_)
    · have hk : k < i := by simpa using hk
      have hk' : k.toNat < l.length := by omega
      refine ⟨⟨k0, by omega⟩, _, _, rget_mapI (fun p : LaD => [S p.1, S p.2]) l k k0 (by omega), ⟨i0, hi⟩, _, _, row, ?_⟩
      have hst := hasB_take (s := l[i.toNat].1) hk'
      rw [seq_d]
      refine ifB_intro (fun h => ?_) (fun h => ?_)
      · refine no fun e => ?_
        have h : l[k.toNat].1 = l[i.toNat].1 := by simpa using h
        have := e.2.2
        have hm : hasB (l.take i.toNat) l[i.toNat].1 = true := by
          unfold hasB
          refine List.any_eq_true.2 ⟨l[k.toNat], ?_, by simp [h]⟩
          rw [List.mem_take_iff_getElem]
          exact ⟨k.toNat, by omega, rfl⟩
        rw [hm] at this; cases this
      · rw [wadd_i64 (by omega) (by omega)]
        refine ⟨rfl, ⟨by omega, ?_⟩, mlt (by dsimp only; omega)⟩
        rw [show (k + 1).toNat = k.toNat + 1 by omega, hst, hq, h]; rfl
    · have hk : i ≤ k := by simpa using hk
      obtain rfl : k = i := by omega
      rw [wadd_i64 (by omega) (by omega)]
      refine ⟨rfl, ⟨by omega, fun q hqk hql => ?_⟩, mlt (by dsimp only; omega)⟩
      by_cases e : q = k.toNat
      · subst e; exact ⟨h1, by omega, hq⟩
      · exact hp q (by omega) hql
  · have hi : l.length ≤ i := by simpa using hi
    have e : labP l ↔ l.length ≤ 8 := ⟨fun e => e.1, fun e => ⟨e, fun k hk hkl => hp k (by omega) hkl⟩⟩
    have : ile (l.length : Int) 8 = decide (labP l) := by
      simp only [ile_eq]
      by_cases h : l.length ≤ 8 <;> simp [e, h] <;> omega
    rw [this]

/-- How many labels are named le. -/
def lesN (l : List LaD) : Nat := (l.filter fun p => decide (p.1 = leN)).length
theorem lesN_le (l : List LaD) : lesN l ≤ l.length := List.length_filter_le _ _
theorem lesN_zero (l : List LaD) : lesN l = 0 ↔ hasB l leN = false := by
  unfold lesN hasB
  rw [List.length_eq_zero_iff, List.filter_eq_nil_iff, List.any_eq_false]

theorem les_fn (l : List LaD) (hl : l.length ≤ 4000000000000000000) : Ct Tryz.prog 96 {} [SL 2 (laR l)] (fun r => r = [I (lesN l)]) := by
  refine rles_nf _ _ ⟨fun n i => (0 ≤ i ∧ i ≤ l.length) ∧ n = (lesN (l.take i.toNat) : Nat), fun _ i => (l.length - i).toNat, ⟨by omega, rfl⟩, ?_⟩
  rintro n i ⟨⟨i0, il⟩, rfl⟩
  rw [rlen_eq, List.length_map]
  refine ifB_intro (fun hi => ?_) (fun hi => ?_)
  · have hi : i < l.length := by simpa using hi
    have hi' : i.toNat < l.length := by omega
    have hb := lesN_le (l.take i.toNat)
    rw [List.length_take] at hb
    have hst : lesN (l.take (i.toNat + 1)) = lesN (l.take i.toNat) + (if l[i.toNat].1 = leN then 1 else 0) := by
      unfold lesN
      rw [List.take_add_one, List.getElem?_eq_getElem hi', List.filter_append, List.length_append]
      congr 1
      by_cases h : l[i.toNat].1 = leN <;> simp [h]
    refine ⟨⟨i0, hi⟩, _, _, rget_mapI (fun p : LaD => [S p.1, S p.2]) l i i0 hi, ?_⟩
    rw [seq_d, wadd_i64 (a := i) (by omega) (by omega)]
    refine ifB_intro (fun h => ?_) (fun h => ?_)
    · have h : l[i.toNat].1 = leN := by simpa using h
      rw [wadd_i64 (by omega) (by omega)]
      refine ⟨rfl, ⟨by omega, ?_⟩, mlt (by dsimp only; omega)⟩
      rw [show (i + 1).toNat = i.toNat + 1 by omega, hst, if_pos h]; rfl
    · have h : ¬ l[i.toNat].1 = leN := by simpa using h
      refine ⟨rfl, ⟨by omega, ?_⟩, mlt (by dsimp only; omega)⟩
      rw [show (i + 1).toNat = i.toNat + 1 by omega, hst, if_neg h]; rfl
  · have hi : l.length ≤ i := by simpa using hi
    rw [List.take_of_length_le (by omega)]

theorem le_fn (k : Nat) (hk : k < 9) : Ct Tryz.prog 97 {} [I k] (fun r => r = [S (bnd k)]) := by
  refine rle_nf _ _ ⟨?_, ?_, bnd k, ?_, rfl⟩
  · show (0 : Int) ≤ k ∧ (k : Int) < ((9 : Nat) : Int); omega
  · show (0 : Int) ≤ k ∧ (k : Int) < ((9 : Nat) : Int); omega
  · match k, hk with
    | 0, _ => rfl
    | 1, _ => rfl
    | 2, _ => rfl
    | 3, _ => rfl
    | 4, _ => rfl
    | 5, _ => rfl
    | 6, _ => rfl
    | 7, _ => rfl
    | 8, _ => rfl

theorem whole_fn (f : FaD) : Ct Tryz.prog 56 {} [.agg f.row] (fun r => r = [B (decide (0 < f.ss.length ∧ (f.ty = 3 → f.ss.length % 11 = 0)))]) := by
  refine rwhole_nf _ _ _ _ _ (ifB_intro (fun h => ?_) (fun h => ?_))
  · have h : 0 < f.ss.length := by simpa using h
    refine ifB_intro (fun h3 => ?_) (fun h3 => ?_)
    · have h3 : ¬ f.ty = 3 := by simpa using h3
      simp [h3, h]
    · have h3 : f.ty = 3 := by simpa using h3
      refine ⟨by decide, ?_⟩
      have e : wrem (rlen (smR f.ss)) 11 = ((f.ss.length % 11 : Nat) : Int) := by
        show Int.tmod ((smR f.ss).length : Int) 11 = _
        rw [List.length_map, Int.tmod_eq_emod_of_nonneg (by omega)]
        rfl
      rw [e]
      simp [h3, h]
      omega
  · have h : ¬ 0 < f.ss.length := by simpa using h
    simp [h]

end Go.Proofs.YtknnooannohflaaGreatDoor.Met
