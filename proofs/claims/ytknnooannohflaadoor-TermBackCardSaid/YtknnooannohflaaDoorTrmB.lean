/- Filters: readings, bounds, and how many there are in a tree. -/
import Derived.Test.YtknnooannohflaaDoorTrmA
import Derived.Test.YtknnooannohflaaDoorPxMR
namespace Go.Proofs.YtknnooannohflaaDoor.Trm
open Go Go.Px Go.Proofs
set_option maxRecDepth 100000
set_option linter.unusedVariables false



mutual
/-- A machine has room for it. -/
def smF : FlD → Prop
  | .mk _ _ _ nm ks => nm.size ≤ 140737488355327 ∧ ks.length ≤ 140737488355327 ∧ smL ks
def smL : List FlD → Prop
  | [] => True
  | k :: ks => smF k ∧ smL ks
end
theorem smL_mem : ∀ {ks : List FlD} {k : FlD}, smL ks → k ∈ ks → smF k
  | k' :: ks, k, h, hm => by
    rw [smL] at h
    rcases List.mem_cons.1 hm with rfl | hm
    · exact h.1
    · exact smL_mem h.2 hm
theorem smL_of : ∀ {ks : List FlD}, (∀ k ∈ ks, smF k) → smL ks
  | [], _ => trivial
  | k :: ks, h => by rw [smL]; exact ⟨h k (by simp), smL_of fun x hx => h x (by simp [hx])⟩
mutual
theorem sm_ok : ∀ f : FlD, okA f → cnt f ≤ 4294967296 → smF f
  | .mk op a b nm ks, h, hc => by
    rw [okA] at h
    rw [cnt] at hc
    rw [smF]
    have := h.1
    unfold OkOne at this
    have := cntL_len ks
    exact ⟨by omega, by omega, smL_ok ks h.2 (by omega)⟩
theorem smL_ok : ∀ ks : List FlD, okL ks → cntL ks ≤ 4294967296 → smL ks
  | [], _, _ => trivial
  | k :: ks, h, hc => by
    rw [okL] at h
    rw [cntL] at hc
    rw [smL]
    exact ⟨sm_ok k h.1 (by omega), smL_ok ks h.2 (by omega)⟩
end

/-- A row is a filter's, if each step into it is one. -/
theorem read_flt (R : List SV → Prop) (hR : ∀ ss, R ss → ∃ op a b nm rows, ss = [I op, I a, I b, S nm, SL 5 rows] ∧ nm.size ≤ 140737488355327 ∧ rows.length ≤ 140737488355327 ∧ ∀ r ∈ rows, R r) :
    ∀ (n : Nat) (ss : List SV), SizeOf.sizeOf ss ≤ n → R ss → ∃ f : FlD, ss = f.row ∧ smF f
  | 0, ss, hn, h => by
    cases ss <;> simp at hn
  | n + 1, ss, hn, h => by
    obtain ⟨op, a, b, nm, rows, rfl, h1, h2, h3⟩ := hR ss h
    have key : ∀ rows' : List (List SV), SizeOf.sizeOf rows' ≤ SizeOf.sizeOf rows → (∀ r ∈ rows', R r) → ∃ ks : List FlD, rows' = ks.map FlD.row ∧ smL ks := by
      intro rows'
      induction rows' with
      | nil => intro _ _; exact ⟨[], rfl, trivial⟩
      | cons r rs ih =>
        intro hs hr
        simp only [List.cons.sizeOf_spec] at hs
        obtain ⟨f, e, hf⟩ := read_flt R hR n r (by simp at hn; omega) (hr r (by simp))
        obtain ⟨ks, ek, hk⟩ := ih (by omega) (fun x hx => hr x (by simp [hx]))
        exact ⟨f :: ks, by rw [e, ek]; rfl, by rw [smL]; exact ⟨hf, hk⟩⟩
    obtain ⟨ks, rfl, hk⟩ := key rows (Nat.le_refl _) h3
    exact ⟨.mk op a b nm ks, (row_mk op a b nm ks).symm, by rw [smF]; exact ⟨h1, by simpa using h2, hk⟩⟩

/-- What Size tells: how many there are and how deep, where there are few. -/
structure SzR (f : FlD) (k : Nat) (m d : Int) : Prop where
  m1 : 1 ≤ m
  d1 : 1 ≤ d
  mb : m ≤ ((k * k + k + 2 : Nat) : Int)
  db : d ≤ k + 2
  fwd : cnt f ≤ 64 → 54 + dep f ≤ k → m = cnt f ∧ d = dep f
  bwd : m ≤ 64 → 54 + d ≤ k → (cnt f : Int) = m ∧ (dep f : Int) = d

structure SzL (f : FlD) (k i : Nat) (m d : Int) : Prop where
  m1 : 1 ≤ m
  d1 : 1 ≤ d
  mb : m ≤ ((k * k + k + 2 : Nat) : Int)
  db : d ≤ k + 2
  fwd : cnt f ≤ 64 → 54 + dep f ≤ k → m = 1 + cntL (f.ks.take i) ∧ d = 1 + depL (f.ks.take i)
  bwd : m ≤ 64 → 54 + d ≤ k → (1 + cntL (f.ks.take i) : Int) = m ∧ (1 + depL (f.ks.take i) : Int) = d

theorem cnt_ks : ∀ f : FlD, cnt f = 1 + cntL f.ks
  | .mk _ _ _ _ _ => rfl
theorem dep_ks : ∀ f : FlD, dep f = 1 + depL f.ks
  | .mk _ _ _ _ _ => rfl

theorem SzL.start (f : FlD) (k : Nat) : SzL f k 0 1 1 where
  m1 := by omega
  d1 := by omega
  mb := by omega
  db := by omega
  fwd := fun _ _ => by simp [cntL, depL]
  bwd := fun _ _ => by simp [cntL, depL]

theorem cntL_take_le (ks : List FlD) (i : Nat) : cntL (ks.take i) ≤ cntL ks := by
  have := cntL_app (ks.take i) (ks.drop i)
  rw [List.take_append_drop] at this
  omega
theorem depL_take_le (ks : List FlD) (i : Nat) : depL (ks.take i) ≤ depL ks := by
  have := depL_app (ks.take i) (ks.drop i)
  rw [List.take_append_drop] at this
  omega
theorem cntL_snoc (ks : List FlD) (i : Nat) (h : i < ks.length) : cntL (ks.take (i + 1)) = cntL (ks.take i) + cnt ks[i] := by
  rw [List.take_add_one, List.getElem?_eq_getElem h, Option.toList_some, cntL_app]
  simp [cntL]
theorem depL_snoc (ks : List FlD) (i : Nat) (h : i < ks.length) : depL (ks.take (i + 1)) = max (depL (ks.take i)) (dep ks[i]) := by
  rw [List.take_add_one, List.getElem?_eq_getElem h, Option.toList_some, depL_app]
  simp [depL]
theorem wdsL_snoc (ks : List FlD) (i : Nat) (h : i < ks.length) : wdsL (ks.take (i + 1)) = wdsL (ks.take i) ++ wds ks[i] := by
  rw [List.take_add_one, List.getElem?_eq_getElem h, Option.toList_some, wdsL_app]
  simp [wdsL]

theorem SzL.done {f : FlD} {k i : Nat} {m d : Int} (h : SzL f k i m d) (hi : i = f.ks.length ∨ (i ≤ f.ks.length ∧ 2 * (k : Int) < m)) : SzR f k m d where
  m1 := h.m1
  d1 := h.d1
  mb := h.mb
  db := h.db
  fwd := fun h1 h2 => by
    obtain ⟨e1, e2⟩ := h.fwd h1 h2
    have := cntL_take_le f.ks i
    rw [cnt_ks] at h1 ⊢
    rw [dep_ks] at h2 ⊢
    rcases hi with rfl | ⟨_, hi⟩
    · rw [List.take_length] at e1 e2; omega
    · omega
  bwd := fun h1 h2 => by
    obtain ⟨e1, e2⟩ := h.bwd h1 h2
    have := h.d1
    rw [cnt_ks, dep_ks]
    rcases hi with rfl | ⟨_, hi⟩
    · rw [List.take_length] at e1 e2; omega
    · omega

theorem SzR.stop {f : FlD} : SzR f 0 2 2 where
  m1 := by omega
  d1 := by omega
  mb := by decide
  db := by omega
  fwd := fun _ h => by omega
  bwd := fun _ h => by omega

theorem SzL.next {f : FlD} {k i : Nat} {m d n e : Int} (h : SzL f k i m d) (hk : 0 < k) (hm : m ≤ 2 * (k : Int)) (hi : i < f.ks.length) (g : SzR f.ks[i] (k - 1) n e) :
    SzL f k (i + 1) (m + n) (if d < e + 1 then e + 1 else d) where
  m1 := by have := h.m1; have := g.m1; omega
  d1 := by have := h.d1; have := g.d1; split <;> omega
  mb := by
    have := g.mb
    obtain ⟨k, rfl⟩ : ∃ j, k = j + 1 := ⟨k - 1, by omega⟩
    simp only [Nat.add_sub_cancel] at this
    have e : (k + 1) * (k + 1) + (k + 1) + 2 = (k * k + k + 2) + 2 * (k + 1) := by
      rw [Nat.add_mul, Nat.mul_add]; omega
    rw [e]
    omega
  db := by have := h.db; have := g.db; split <;> omega
  fwd := fun h1 h2 => by
    obtain ⟨e1, e2⟩ := h.fwd h1 h2
    rw [cnt_ks] at h1
    rw [dep_ks] at h2
    have q1 := cntL_mem (List.getElem_mem hi)
    have q2 := depL_mem (List.getElem_mem hi)
    obtain ⟨g1, g2⟩ := g.fwd (by omega) (by omega)
    rw [cntL_snoc _ _ hi, depL_snoc _ _ hi]
    split <;> omega
  bwd := fun h1 h2 => by
    have := h.m1; have := g.m1
    have h2' : 54 + d ≤ k ∧ 54 + e + 1 ≤ k := by split at h2 <;> omega
    obtain ⟨e1, e2⟩ := h.bwd (by omega) (by omega)
    obtain ⟨g1, g2⟩ := g.bwd (by omega) (by omega)
    rw [cntL_snoc _ _ hi, depL_snoc _ _ hi]
    split <;> omega

theorem SzR.right {f : FlD} {m d : Int} (h : SzR f 70 m d) : (m ≤ 64 ∧ d ≤ 16) ↔ (cnt f ≤ 64 ∧ dep f ≤ 16) := by
  constructor
  · rintro ⟨h1, h2⟩
    obtain ⟨e1, e2⟩ := h.bwd h1 (by omega)
    omega
  · rintro ⟨h1, h2⟩
    obtain ⟨e1, e2⟩ := h.fwd h1 (by omega)
    omega
end Go.Proofs.YtknnooannohflaaDoor.Trm
