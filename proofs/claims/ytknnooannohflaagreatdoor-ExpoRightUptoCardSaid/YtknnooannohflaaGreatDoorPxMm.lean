/- The row's reading of the arguments, with the sizes that a machine has room for. -/
import Derived.Test.YtknnooannohflaaGreatDoorPxJ
import Derived.Handed
namespace Go.Px
open Go.RowKit Go.ChangeShapes Go.WideShapes Go.ChangeAt
set_option linter.unusedVariables false

/-- So many elements a slice may have. -/
def bndL (P : Program) (e : TypeId) : Nat := bif Nat.beq (P.bytesOf e) 0 then maxLen else reachBytes

/-- The cells of a variable of a type. -/
def TypW (P : Program) : Nat → TypeId → List SV → Prop
  | 0, _, _ => True
  | n + 1, t, ss => match P.underlying t with
    | some .bool => ∃ b, ss = [.val (.bool b)]
    | some (.int k) => ∃ x : Int, ss = [.val (.int k x)] ∧ (Lit.int k x).wf = true
    | some .string => ∃ s : ByteArray, ss = [.val (.string s)] ∧ s.size ≤ reachBytes
    | some (.slice e) => ∃ rows, ss = [.slice (P.cellsOf e) rows 0] ∧ rows.length ≤ bndL P e ∧ ∀ r ∈ rows, TypW P n e r
    | some (.struct fs) => splits (fun f s => TypW P n f s) (fs.toList.map (·.type)) ss
    | some (.array m e) => splits (fun f s => TypW P n f s) (List.replicate m e) ss
    | _ => True

section
variable {H : Type} {enc : TypeId × Value → H} {P : Program} {w : World} {spare : Nat → Bool} {held : Bool}

theorem weightsAll_mem {e : TypeId} {d : DataW H} {x : Nat} : ∀ {l : List (DataW H)}, d ∈ l → x ∈ d.weights P e → x ∈ DataW.weightsAll P e l
  | a :: l, h, hx => by
    simp only [DataW.weightsAll, List.mem_append]
    rcases List.mem_cons.1 h with rfl | h
    · exact .inl hx
    · exact .inr (weightsAll_mem h hx)

theorem weightsEach_app {x : Nat} : ∀ (ts : List TypeId) (ds : List (DataW H)) (us : List TypeId) (gs : List (DataW H)), x ∈ DataW.weightsEach P ts ds → x ∈ DataW.weightsEach P (ts ++ us) (ds ++ gs)
  | t :: ts, d :: ds, us, gs, h => by
    simp only [DataW.weightsEach, List.mem_append] at h
    simp only [List.cons_append, DataW.weightsEach, List.mem_append]
    rcases h with h | h
    · exact .inl h
    · exact .inr (weightsEach_app ts ds us gs h)
  | [], _, _, _, h => by simp [DataW.weightsEach] at h
  | _ :: _, [], _, _, h => by simp [DataW.weightsEach] at h

/-- A value of a type, as plain data. -/
def TypVW (P : Program) (n : Nat) (t : TypeId) (s : SV) : Prop := ∃ ss, TypW P n t ss ∧ (isAggT P t = true → s = .agg ss) ∧ (isAggT P t = false → ss = [s])

def TypAllW (P : Program) (n : Nat) : List TypeId → List SV → Prop
  | [], ss => ss = []
  | t :: ts, ss => ∃ s rest, ss = s :: rest ∧ TypVW P n t s ∧ TypAllW P n ts rest

end


mutual
/-- How many letters and rows a datum has. -/
def blk : SV → Nat
  | .val v => match v with
    | .string s => s.size
    | _ => 0
  | .slice _ rows _ => blkR rows
  | .agg cs => blkL cs
  | _ => 0
def blkL : List SV → Nat
  | [] => 0
  | c :: cs => blk c + blkL cs
def blkR : List (List SV) → Nat
  | [] => 0
  | r :: rs => 1 + blkL r + blkR rs
end
theorem blkL_app : ∀ a b : List SV, blkL (a ++ b) = blkL a + blkL b
  | [], b => by simp [blkL]
  | c :: a, b => by simp [blkL, blkL_app a b]; omega

/-- A measure of readings that counts at least that. -/
structure Wt {H : Type} (μ : DataW H → Nat) : Prop where
  pos : ∀ d, 1 ≤ μ d
  str : ∀ b : List UInt8, b.length + 1 ≤ μ (.lit (.string b))
  sl : ∀ es sp, (es.map μ).sum + 1 ≤ μ (.slice es sp)
  ag : ∀ es, (es.map μ).sum + 1 ≤ μ (.agg es)

theorem blkR_le {H : Type} (μ : DataW H → Nat) : ∀ (rows : List (List SV)) (ds : List (DataW H)), rows.length = ds.length → (∀ (i : Nat) r, rows[i]? = some r → 1 + blkL r ≤ μ (ds.getD i .nil)) → blkR rows ≤ (ds.map μ).sum
  | [], [], _, _ => Nat.zero_le _
  | r :: rows, d :: ds, hl, h => by
    have h0 := h 0 r rfl
    have h1 := blkR_le μ rows ds (by simpa using hl) (fun i r hr => by have := h (i + 1) r (by simpa using hr); simpa using this)
    simp only [blkR, List.map_cons, List.sum_cons]
    simp at h0
    omega
  | [], _ :: _, hl, _ => by simp at hl
  | _ :: _, [], hl, _ => by simp at hl

section
variable {H : Type} {enc : TypeId × Value → H} {P : Program} {w : World} {spare : Nat → Bool} {held : Bool}

theorem splits_fieldsB {μ : DataW H → Nat} (fuel n : Nat) (cs : List Value) (ih : ∀ t cs d ps, lay P n t = true → (∀ x ∈ d.weights P t, x ≤ reachBytes) → DataW.trod enc P w 0 spare held fuel t cs = some (d, ps) → ∃ ss, Reads w cs ss ∧ TypW P n t ss ∧ 1 + blkL ss ≤ μ d) :
    ∀ (fs : List Field) (off : Nat) (xs : List (DataW H × List MemPlace)), (∀ x ∈ DataW.weightsEach P (fs.map (·.type)) (xs.map (·.1)), x ≤ reachBytes) → contig P off fs = true → (∀ f ∈ fs, lay P n f.type = true) →
      off + (fs.map fun f => P.cellsOf f.type).foldr (· + ·) 0 = cs.length →
      fs.mapM (fun f => DataW.trod enc P w 0 spare held fuel f.type ((cs.drop f.offset).take (P.cellsOf f.type))) = some xs →
      ∃ ss, Reads w (cs.drop off) ss ∧ splits (fun f s => TypW P n f s) (fs.map (·.type)) ss ∧ blkL ss ≤ ((xs.map (·.1)).map μ).sum
  | [], off, xs, _, _, _, hl, _ => ⟨[], by simp at hl; rw [List.drop_of_length_le (by omega)]; exact ⟨rfl, by simp⟩, rfl, Nat.zero_le _⟩
  | f :: fs, off, xs, hwt, hc, hlay, hl, hm => by
    simp only [contig, Bool.and_eq_true] at hc
    have ho : f.offset = off := Nat.eq_of_beq_eq_true hc.1
    rw [List.mapM_cons] at hm
    simp only [bind, Option.bind_eq_some_iff, pure, Option.some.injEq] at hm
    obtain ⟨x, hx, xs', hxs, rfl⟩ := hm
    obtain ⟨d, ps⟩ := x
    obtain ⟨s1, r1, t1, b1⟩ := ih f.type _ d ps (hlay f (by simp)) (fun x hx => hwt x (by simp [DataW.weightsEach, hx])) hx
    simp only [List.map_cons, List.foldr_cons] at hl
    obtain ⟨s2, r2, t2, b2⟩ := splits_fieldsB (μ := μ) fuel n cs ih fs (off + P.cellsOf f.type) xs' (fun x hx => hwt x (by simp only [List.map_cons, DataW.weightsEach, List.mem_append]; exact .inr hx)) hc.2 (fun g hg => hlay g (by simp [hg])) (by omega) hxs
    refine ⟨s1 ++ s2, ?_, ⟨s1, s2, rfl, t1, t2⟩, by rw [blkL_app, List.map_cons, List.map_cons, List.sum_cons]; show _ ≤ μ d + _; omega⟩
    rw [ho] at r1
    have e : cs.drop off = (cs.drop off).take (P.cellsOf f.type) ++ cs.drop (off + P.cellsOf f.type) := by
      rw [← List.drop_drop, List.take_append_drop]
    rw [e]
    exact r1.append r2

theorem splits_itemsB {μ : DataW H → Nat} (fuel n : Nat) (e : TypeId) (cs : List Value) (he : lay P n e = true) (ih : ∀ t cs d ps, lay P n t = true → (∀ x ∈ d.weights P t, x ≤ reachBytes) → DataW.trod enc P w 0 spare held fuel t cs = some (d, ps) → ∃ ss, Reads w cs ss ∧ TypW P n t ss ∧ 1 + blkL ss ≤ μ d) :
    ∀ (m k : Nat) (xs : List (DataW H × List MemPlace)), (∀ x ∈ DataW.weightsAll P e (xs.map (·.1)), x ≤ reachBytes) → (k + m) * P.cellsOf e = cs.length →
      (List.range' k m).mapM (fun i => DataW.trod enc P w 0 spare held fuel e ((cs.drop (i * P.cellsOf e)).take (P.cellsOf e))) = some xs →
      ∃ ss, Reads w (cs.drop (k * P.cellsOf e)) ss ∧ splits (fun f s => TypW P n f s) (List.replicate m e) ss ∧ blkL ss ≤ ((xs.map (·.1)).map μ).sum
  | 0, k, xs, _, hl, _ => ⟨[], by rw [List.drop_of_length_le (by rw [← hl]; simp)]; exact ⟨rfl, by simp⟩, rfl, Nat.zero_le _⟩
  | m + 1, k, xs, hwt, hl, hm => by
    rw [List.range'_succ, List.mapM_cons] at hm
    simp only [bind, Option.bind_eq_some_iff, pure, Option.some.injEq] at hm
    obtain ⟨x, hx, xs', hxs, rfl⟩ := hm
    obtain ⟨d, ps⟩ := x
    obtain ⟨s1, r1, t1, b1⟩ := ih e _ d ps he (fun x hx => hwt x (by simp [DataW.weightsAll, hx])) hx
    obtain ⟨s2, r2, t2, b2⟩ := splits_itemsB (μ := μ) fuel n e cs he ih m (k + 1) xs' (fun x hx => hwt x (by simp only [List.map_cons, DataW.weightsAll, List.mem_append]; exact .inr hx)) (by rw [← hl]; congr 1; omega) hxs
    refine ⟨s1 ++ s2, ?_, ⟨s1, s2, rfl, t1, t2⟩, by rw [blkL_app, List.map_cons, List.map_cons, List.sum_cons]; show _ ≤ μ d + _; omega⟩
    have e' : cs.drop (k * P.cellsOf e) = (cs.drop (k * P.cellsOf e)).take (P.cellsOf e) ++ cs.drop ((k + 1) * P.cellsOf e) := by
      rw [Nat.succ_mul, ← List.drop_drop, List.take_append_drop]
    rw [e']
    exact r1.append r2

theorem trod_typB {μ : DataW H → Nat} (hμ : Wt μ) : ∀ (fuel n : Nat) (t : TypeId) (cs : List Value) (d : DataW H) (ps : List MemPlace), lay P n t = true → (∀ x ∈ d.weights P t, x ≤ reachBytes) → DataW.trod enc P w 0 spare held fuel t cs = some (d, ps) →
    ∃ ss, Reads w cs ss ∧ TypW P n t ss ∧ 1 + blkL ss ≤ μ d := by
  intro fuel
  induction fuel with
  | zero => intro n t cs d ps _ _ h; simp [DataW.trod] at h
  | succ fuel ih =>
    intro n
    cases n with
    | zero => intro t cs d ps hl _ _; simp [lay] at hl
    | succ n =>
      intro t cs d ps hlay hwt h
      unfold DataW.trod at h
      simp only [TypW]
      simp only [lay] at hlay
      split at h
      · rename_i b ht; rw [ht]; exact ⟨_, Reads.val _ rfl, ⟨b, rfl⟩, hμ.pos _⟩
      · rename_i k k' x ht
        rw [ht]
        split at h
        · rename_i hk; obtain ⟨rfl, hwf⟩ := hk; cases h; exact ⟨_, Reads.val _ rfl, ⟨x, rfl, hwf⟩, hμ.pos _⟩
        · cases h
      · rename_i k k' x ht; rw [ht]; exact ⟨_, Reads.val _ rfl, trivial, hμ.pos _⟩
      · rename_i s ht
        rw [ht]
        split at h
        · cases h
          have := hwt s.data.toList.length (by simp [DataW.weights])
          exact ⟨_, Reads.val _ rfl, ⟨s, rfl, by rw [Array.length_toList] at this; exact this⟩, by have := hμ.str s.data.toList; rw [Array.length_toList] at this; simp only [blkL, blk]; have : s.size = s.data.size := rfl; omega⟩
        · cases h
      · rename_i e ht; rw [ht]; exact ⟨_, Reads.val _ rfl, trivial, hμ.pos _⟩
      · rename_i e a ht; rw [ht]; exact ⟨_, Reads.val _ rfl, trivial, hμ.pos _⟩
      · rename_i e ht
        rw [ht]
        exact ⟨[.slice (P.cellsOf e) [] 0], Reads.one (.empty none 0 _ 0 (by omega) (by omega) (by simp)) rfl, ⟨[], rfl, by simp, by simp⟩, hμ.pos _⟩
      · rename_i e a len cap ht
        rw [ht] at hlay ⊢
        simp only [Bool.and_eq_true] at hlay
        have hpos : 0 < P.cellsOf e := Nat.le_of_ble_eq_true hlay.1
        split at h
        · rename_i hcond
          obtain ⟨_, hle, hcap⟩ := hcond
          simp only [Option.bind_eq_some_iff, Option.map_eq_some_iff] at h
          obtain ⟨elems, hel, rest, hre, hd⟩ := h
          cases hd
          simp only [DataW.weights, ht, List.mem_cons, List.mem_append] at hwt
          obtain ⟨hlen, hget⟩ := mapM_get hel
          simp at hlen
          by_cases h0 : len = 0
          · subst h0
            exact ⟨[.slice (P.cellsOf e) [] 0], Reads.one (.empty (some a) cap _ 0 (by omega) (by omega) (by simp)) rfl, ⟨[], rfl, by simp, by simp⟩, hμ.pos _⟩
          · have each : ∀ i, i < len → ∃ cs', w.cells? 0 (a.add (i * P.cellsOf e)) (P.cellsOf e) = some cs' ∧ ∃ ss, Reads w cs' ss ∧ TypW P n e ss ∧ 1 + blkL ss ≤ μ ((elems.map (·.1)).getD i .nil) := by
              intro i hi
              have hi' : i < elems.length := by omega
              obtain ⟨x, hx, hf⟩ := hget i _ (List.getElem?_eq_getElem hi')
              simp [hi] at hx
              subst hx
              simp only [Option.bind_eq_some_iff] at hf
              obtain ⟨cs', hcs, htr⟩ := hf
              refine ⟨cs', hcs, ?_⟩
              have hgd : (elems.map (·.1)).getD i .nil = elems[i].1 := by rw [List.getD_eq_getElem?_getD, List.getElem?_map, List.getElem?_eq_getElem hi']; rfl
              rw [hgd]
              exact ih n e cs' elems[i].1 elems[i].2 hlay.2 (fun x hx => hwt x (.inr (.inl (weightsAll_mem (List.mem_map_of_mem (List.getElem_mem hi')) hx)))) htr
            have hspot : a.spot = none := by
              obtain ⟨cs', hcs, _⟩ := each 0 (by omega)
              obtain ⟨_, _, hc⟩ := World.cells?_some hcs
              have := hc 0 hpos
              simp only [Nat.zero_mul, Addr.add, if_true] at this
              have hlen' : cs'.length = P.cellsOf e := (World.cells?_some hcs).2.1
              rw [List.getElem?_eq_getElem (by omega)] at this
              unfold World.cell? at this
              cases hsp : a.spot with
              | none => rfl
              | some x => simp [hsp] at this; split at this <;> simp_all
            obtain ⟨b, off, sp⟩ := a
            simp only at hspot
            subst hspot
            obtain ⟨rows, hrl, hrows⟩ := choose_list (fun i ss => ∃ cs', w.cells? 0 ((⟨b, off, none⟩ : Addr).add (i * P.cellsOf e)) (P.cellsOf e) = some cs' ∧ Reads w cs' ss ∧ TypW P n e ss ∧ 1 + blkL ss ≤ μ ((elems.map (·.1)).getD i .nil)) len (fun i hi => by
              obtain ⟨cs', h1, ss, h2, h3⟩ := each i hi
              exact ⟨ss, cs', h1, h2, h3⟩)
            have cellAt : ∀ (i : Nat) r (j : Nat) c, rows[i]? = some r → r[j]? = some c → ∃ v, w.cell? ⟨b, off + i * P.cellsOf e + j, none⟩ = some v ∧ PRep (hof w) v c ∧ v.oneCell' = true := by
              intro i r j c hr hc
              obtain ⟨cs', h1, h2, h3, _⟩ := hrows i r hr
              obtain ⟨_, hl, hcell⟩ := World.cells?_some h1
              have hj : j < cs'.length := by have := (List.getElem?_eq_some_iff.1 hc).1; rw [h2.1] at this; exact this
              have := hcell j (by omega)
              rw [add_mk, add_mk, List.getElem?_eq_getElem hj] at this
              exact ⟨_, this, h2.2 j _ c (List.getElem?_eq_getElem hj) hc⟩
            have hlen0 : rows.length ≤ bndL P e := by
              have hw0 := hwt _ (.inl rfl)
              simp only [List.length_map] at hw0
              unfold bndL
              cases hz : Nat.beq (P.bytesOf e) 0 with
              | true => simp only [cond_true]; omega
              | false =>
                simp only [cond_false]
                have hne : 1 ≤ P.bytesOf e := by
                  rcases Nat.eq_zero_or_pos (P.bytesOf e) with q | q
                  · rw [q] at hz; cases hz
                  · exact q
                have := Nat.le_mul_of_pos_right (elems.length + rest.length) hne
                omega
            refine ⟨[.slice (P.cellsOf e) rows 0], Reads.one ?_ rfl, ⟨rows, rfl, hlen0, fun r hr => ?_⟩, ?_⟩
            · rw [← hrl]
              refine .slice b off cap _ rows 0 (fun i j => (w.cell? ⟨b, off + i * P.cellsOf e + j, none⟩).getD undef) hpos (fun i r hr => ?_) (fun i r j c hr hc => ?_) (fun i r j c hr hc => ?_) (fun i r j c hr hc => ?_) (by omega) (by omega) (by omega)
              · obtain ⟨cs', h1, h2, _⟩ := hrows i r hr
                rw [h2.1]; exact (World.cells?_some h1).2.1
              · obtain ⟨v, hv, _⟩ := cellAt i r j c hr hc
                simp [hof, hv]
              · obtain ⟨v, hv, hp⟩ := cellAt i r j c hr hc
                simp only [hv, Option.getD_some]; exact hp.1
              · obtain ⟨v, hv, hp⟩ := cellAt i r j c hr hc
                simp only [hv, Option.getD_some]; exact hp.2
            · obtain ⟨i, hi, e1⟩ := List.mem_iff_getElem.1 hr
              obtain ⟨_, _, _, h3, _⟩ := hrows i r (by rw [List.getElem?_eq_getElem hi, e1])
              exact h3
            · have h1 := hμ.sl (elems.map (·.1)) (rest.map (·.1))
              have h2 : blkR rows ≤ ((elems.map (·.1)).map μ).sum := blkR_le μ rows (elems.map (·.1)) (by rw [hrl, List.length_map]; omega) (fun i r hr => by
                obtain ⟨_, _, _, _, h4⟩ := hrows i r hr
                exact h4)
              simp only [blkL, blk] at *
              omega
        · cases h
      · rename_i _ fs ht
        rw [ht] at hlay ⊢
        simp only [Bool.and_eq_true, List.all_eq_true] at hlay
        split at h
        · rename_i hl
          simp only [Option.map_eq_some_iff] at h
          obtain ⟨xs, hxs, hd⟩ := h
          cases hd
          simp only [DataW.weights, ht] at hwt
          have hag := hμ.ag (xs.map (·.1))
          obtain ⟨ss, g1, g2, g3⟩ := splits_fieldsB fuel n _ (fun t cs d ps h1 h2 h3 => ih n t cs d ps h1 h2 h3) fs.toList 0 xs hwt hlay.1.1 hlay.2 (by rw [hl, Nat.zero_add]; exact (Nat.eq_of_beq_eq_true hlay.1.2).symm) hxs
          exact ⟨ss, by simpa using g1, g2, by omega⟩
        · cases h
      · rename_i _ m e ht
        rw [ht] at hlay ⊢
        simp only [Bool.and_eq_true] at hlay
        split at h
        · rename_i hl
          simp only [Option.map_eq_some_iff] at h
          obtain ⟨xs, hxs, hd⟩ := h
          cases hd
          simp only [DataW.weights, ht] at hwt
          have hag := hμ.ag (xs.map (·.1))
          obtain ⟨ss, g1, g2, g3⟩ := splits_itemsB fuel n e _ hlay.2 (fun t cs d ps h1 h2 h3 => ih n t cs d ps h1 h2 h3) m 0 xs hwt (by rw [hl, Nat.zero_add]; exact (Nat.eq_of_beq_eq_true hlay.1).symm) (by rw [← List.range_eq_range']; exact hxs)
          exact ⟨ss, by simpa using g1, g2, by omega⟩
        · cases h
      all_goals (rename_i ht; first | (rw [ht]; exact ⟨_, Reads.val _ rfl, trivial, hμ.pos _⟩) | skip)
      all_goals cases h

end
end Go.Px
