/- From the row's reading of the arguments to plain data, and back to the row. -/
import Derived.Test.YtknnooannohflaaGreatDoorPxI
import Derived.ProofKit
import Derived.JoinedCond
namespace Go.Px
open Go.RowKit Go.ChangeShapes Go.WideShapes Go.ChangeAt
set_option linter.unusedVariables false

/-- All of memory. -/
def hof (w : World) : Hp := fun b o => w.cell? ⟨b, o, none⟩

theorem hof_sub (w : World) : HSub (hof w) w := fun _ _ _ e => e

/-- Parts, one behind the other. -/
def splits {α : Type} (Q : α → List SV → Prop) : List α → List SV → Prop
  | [], ss => ss = []
  | x :: xs, ss => ∃ a b, ss = a ++ b ∧ Q x a ∧ splits Q xs b

/-- The cells of a variable of a type. -/
def Typ (P : Program) : Nat → TypeId → List SV → Prop
  | 0, _, _ => True
  | n + 1, t, ss => match P.underlying t with
    | some .bool => ∃ b, ss = [.val (.bool b)]
    | some (.int k) => ∃ x : Int, ss = [.val (.int k x)] ∧ (Lit.int k x).wf = true
    | some .string => ∃ s : ByteArray, ss = [.val (.string s)] ∧ s.size ≤ maxLen
    | some (.slice e) => ∃ rows, ss = [.slice (P.cellsOf e) rows 0] ∧ rows.length ≤ maxLen ∧ ∀ r ∈ rows, Typ P n e r
    | some (.struct fs) => splits (fun f s => Typ P n f s) (fs.toList.map (·.type)) ss
    | some (.array m e) => splits (fun f s => Typ P n f s) (List.replicate m e) ss
    | _ => True

def contig (P : Program) : Nat → List Field → Bool
  | _, [] => true
  | off, f :: fs => Nat.beq f.offset off && contig P (off + P.cellsOf f.type) fs

/-- A type's cells lie as its parts do, one behind the other. -/
def lay (P : Program) : Nat → TypeId → Bool
  | 0, _ => false
  | n + 1, t => match P.underlying t with
    | some (.slice e) => Nat.ble 1 (P.cellsOf e) && lay P n e
    | some (.struct fs) => contig P 0 fs.toList && Nat.beq (P.cellsOf t) ((fs.toList.map fun f => P.cellsOf f.type).foldr (· + ·) 0) && fs.toList.all fun f => lay P n f.type
    | some (.array m e) => Nat.beq (P.cellsOf t) (m * P.cellsOf e) && lay P n e
    | _ => true

section
variable {H : Type} {enc : TypeId × Value → H} {P : Program} {w : World} {spare : Nat → Bool} {held : Bool}

def Reads (w : World) (cs : List Value) (ss : List SV) : Prop := ss.length = cs.length ∧ ∀ (i : Nat) v s, cs[i]? = some v → ss[i]? = some s → PRep (hof w) v s ∧ v.oneCell' = true

theorem Reads.val (v : Value) (h : v.oneCell' = true) : Reads w [v] [.val v] :=
  ⟨rfl, fun i u s hv hs => by cases i with
    | zero => simp at hv hs; subst hv; subst hs; exact ⟨.val v, h⟩
    | succ i => simp at hv⟩

theorem Reads.append {c1 c2 : List Value} {s1 s2 : List SV} (h1 : Reads w c1 s1) (h2 : Reads w c2 s2) : Reads w (c1 ++ c2) (s1 ++ s2) := by
  refine ⟨by simp [h1.1, h2.1], fun i v s hv hs => ?_⟩
  rw [List.getElem?_append] at hv hs
  rw [h1.1] at hs
  split at hv
  · rename_i hlt; rw [if_pos hlt] at hs; exact h1.2 i v s hv hs
  · rename_i hlt; rw [if_neg hlt] at hs; exact h2.2 _ v s hv hs

theorem Reads.one {v : Value} {s : SV} (h : PRep (hof w) v s) (ho : v.oneCell' = true) : Reads w [v] [s] :=
  ⟨rfl, fun i u c hu hc => by cases i with
    | zero => simp at hu hc; subst hu; subst hc; exact ⟨h, ho⟩
    | succ i => simp at hu⟩

theorem mapM_get {α β : Type} {f : α → Option β} : ∀ {l : List α} {r : List β}, l.mapM f = some r → r.length = l.length ∧ ∀ (i : Nat) y, r[i]? = some y → ∃ x, l[i]? = some x ∧ f x = some y
  | [], r, h => by simp at h; subst h; simp
  | a :: l, r, h => by
    rw [List.mapM_cons] at h
    simp only [bind, Option.bind_eq_some_iff, pure, Option.some.injEq] at h
    obtain ⟨y, hy, ys, hys, rfl⟩ := h
    obtain ⟨h1, h2⟩ := mapM_get hys
    refine ⟨by simp [h1], fun i z hz => ?_⟩
    cases i with
    | zero => simp at hz; subst hz; exact ⟨a, by simp, hy⟩
    | succ i => simpa using h2 i z (by simpa using hz)

theorem choose_list {α : Type} (Q : Nat → α → Prop) : ∀ (n : Nat), (∀ i, i < n → ∃ x, Q i x) → ∃ l : List α, l.length = n ∧ ∀ (i : Nat) x, l[i]? = some x → Q i x
  | 0, _ => ⟨[], rfl, by simp⟩
  | n + 1, h => by
    obtain ⟨l, hl, hq⟩ := choose_list Q n (fun i hi => h i (by omega))
    obtain ⟨x, hx⟩ := h n (by omega)
    refine ⟨l ++ [x], by simp [hl], fun i y hy => ?_⟩
    rw [List.getElem?_append] at hy
    split at hy
    · exact hq i y hy
    · rename_i hge
      have hin : i = n := by
        have := (List.getElem?_eq_some_iff.1 hy).1
        simp at this; omega
      subst hin
      simp [hl] at hy
      subst hy; exact hx

/-- A value of a type, as plain data. -/
def TypV (P : Program) (n : Nat) (t : TypeId) (s : SV) : Prop := ∃ ss, Typ P n t ss ∧ (isAggT P t = true → s = .agg ss) ∧ (isAggT P t = false → ss = [s])

def TypAll (P : Program) (n : Nat) : List TypeId → List SV → Prop
  | [], ss => ss = []
  | t :: ts, ss => ∃ s rest, ss = s :: rest ∧ TypV P n t s ∧ TypAll P n ts rest

theorem okWide_form {base : Nat} {t : TypeId} {v : Value} (h : Value.okWide P w .any base t v) : (isAggT P t = true → ∃ vs, v = .agg vs) ∧ (isAggT P t = false → v.cells = #[v]) := by
  have key : isAggT P t = false → Cell.okWide P w .any base t v → v.cells = #[v] := by
    intro _ h
    cases v with
    | agg cs =>
      exfalso
      unfold Cell.okWide at h
      split at h <;> first | (rename_i e; cases e; done) | skip
      unfold Cell.ok at h
      split at h <;> first | exact h | (rename_i e; cases e; done)
    | _ => rfl
  unfold Value.okWide at h
  cases hu : P.underlying t with
  | none =>
    have hagg : isAggT P t = false := by simp [isAggT, hu]
    rw [hu] at h
    exact ⟨fun e => by (rw [hagg] at e; cases e), fun e => key e h⟩
  | some d =>
    rw [hu] at h
    cases d with
    | struct fs =>
      have hagg : isAggT P t = true := by simp [isAggT, hu]
      obtain ⟨cs, e, _⟩ := h
      exact ⟨fun _ => ⟨cs, e⟩, fun e => by (rw [hagg] at e; cases e)⟩
    | array n e =>
      have hagg : isAggT P t = true := by simp [isAggT, hu]
      obtain ⟨cs, e, _⟩ := h
      exact ⟨fun _ => ⟨cs, e⟩, fun e => by (rw [hagg] at e; cases e)⟩
    | _ =>
      have hagg : isAggT P t = false := by simp [isAggT, hu]
      exact ⟨fun e => by (rw [hagg] at e; cases e), fun e => key e h⟩

theorem trodAll_below {W W' : World} (hlo : laidOutB P = true) (hb : Below W.heap.size W W') : ∀ (ts : List TypeId) (vs : List Value) (ds : List (DataW H)) (ps : List MemPlace),
    (∀ t ∈ ts, P.readableRec t = true ∧ t < P.types.size) → (∀ x ∈ ps, x.block < W.heap.size) → DataW.TrodAll enc P W 0 (fun _ => true) true ts vs ds ps →
    DataW.TrodAll enc P W' 0 (fun b => decide (b < W.heap.size)) true ts vs ds ps
  | [], [], [], ps, _, _, h => h
  | t :: ts, v :: vs, d :: ds, ps, hr, hlt, h => by
    obtain ⟨p, q, h1, h2, rfl⟩ := h
    exact ⟨p, q, Below.trod hlo (hr t (by simp)).1 (hr t (by simp)).2 h1 hb (fun x hx => hlt x (by simp [hx])),
      trodAll_below hlo hb ts vs ds q (fun t ht => hr t (by simp [ht])) (fun x hx => hlt x (by simp [hx])) h2, rfl⟩
  | [], _ :: _, _, _, _, _, h => by simp [DataW.TrodAll] at h
  | [], [], _ :: _, _, _, _, h => by simp [DataW.TrodAll] at h
  | _ :: _, [], _, _, _, _, h => by simp [DataW.TrodAll] at h
  | _ :: _, _ :: _, [], _, _, _, h => by simp [DataW.TrodAll] at h

theorem trodAll_length {spare : Nat → Bool} {held : Bool} {w : World} : ∀ (ts : List TypeId) (vs : List Value) (ds : List (DataW H)) (ps : List MemPlace), DataW.TrodAll enc P w 0 spare held ts vs ds ps → ds.length = ts.length
  | [], [], [], _, _ => rfl
  | t :: ts, v :: vs, d :: ds, ps, h => by
    obtain ⟨p, q, _, h2, _⟩ := h
    simp [trodAll_length ts vs ds q h2]
  | [], _ :: _, _, _, h => by simp [DataW.TrodAll] at h
  | [], [], _ :: _, _, h => by simp [DataW.TrodAll] at h
  | _ :: _, [], _, _, h => by simp [DataW.TrodAll] at h
  | _ :: _, _ :: _, [], _, h => by simp [DataW.TrodAll] at h

end
end Go.Px
