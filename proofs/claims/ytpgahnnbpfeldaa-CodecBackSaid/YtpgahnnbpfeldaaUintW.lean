/- wire.Uint: the loop over slices.Backward. -/
import Derived.Test.YtpgahnnbpfeldaaCod1
import Derived.Test.YtpgahnnbpfeldaaPxN
import Derived.Test.YtpgahnnbpfeldaaBack
namespace Go.Proofs.Ytpgahnnbpfeldaa.Cod
open Go Go.Px Go.Proofs Go.RowKit Go.Shelf
set_option linter.unusedVariables false

attribute [local go_sem] Oper.semAt_some

theorem wpIn_of_rf {F : Fence} {n : Nat} {P : Program} {c : Code} {id : Nat} {g : Operand} {ps : Array Tmp} {assign body : Code} {Q : Exit → Act → World → Prop} {a : Act} {w : World}
    (e : c = .block id (.rangeFunc g ps assign body)) (h : (Code.rangeFunc g ps assign body).wpIn F n P (Exit.inBlock id Q) a w) : c.wpIn F n P Q a w := by
  subst e; exact wpIn_block h

def ustep (n x : Int) : Int := wor .u64 (wshl .u64 n 7) (wcv .u64 (wrem x 128))
def uall (n : Int) (l : List (Int × Int)) : Int := l.foldl (fun n x => ustep n x.2) n

theorem setCell_cells {W : World} {B : Nat} {v v' : Value} {t : TypeId} (h : W.heap[B]? = some (.cells #[v] t (0, 0))) : (W.setCell ⟨B, 0, none⟩ v').heap[B]? = some (.cells #[v'] t (0, 0)) := by
  simp only [World.setCell, Array.getElem?_modify, h, if_true, Option.map_some]
  rfl

set_option maxRecDepth 100000 in
set_option maxHeartbeats 4000000 in
theorem rf_core (v0 v1 v2 v3 v4 v5 v7 v8 v9 v10 v11 v12 v13 v14 v15 v16 v17 v18 v19 v20 v21 v22 v23 v24 v25 v26 v27 v28 v29 v30 v31 v32 v33 v34 v35 v36 v37 v38 v39 v40 v41 v42 v43 v44 v45 v46 v47 v48 v49 v50 v51 v52 v53 v54 v55 v56 v57 v58 v59 v60 v61 v62 v64 v65 v66 v67 v68 v69 v70 v71 v72 v73 v74 v75 v76 v77 v78 v79 : Value) (B Bs bo b off len cap : Nat) (t : TypeId) (n0 : Int) (zs : List Int) (w : World) (Q : Exit → Act → World → Prop)
    (hlen : len ≤ 100) (hBw : B < w.heap.size) (hb : b < w.heap.size) (hbB : b ≠ B) (hs : Bs < w.heap.size) (hsB : Bs ≠ B)
    (hBs : w.cell? ⟨Bs, bo, none⟩ = some (.slice (some ⟨b, off, none⟩) len cap)) (hc : ∀ j, j < len → w.cell? ⟨b, off + j, none⟩ = some (.int .u8 (zs[j]?.getD 0)))
    (hn : w.heap[B]? = some (.cells #[.int .u64 n0] t (0, 0)))
    (hQ : ∀ (D : Nat) (W : World), w.heap.size ≤ D → Keeps (fun k => k = B) w W → W.heap[B]? = some (.cells #[.int .u64 (uall n0 (upto (fun j => ((len : Int) - 1 - j, zs[len - 1 - j]?.getD 0)) len))] t (0, 0)) → W.heap[D]? = some (.deferred (some [])) →
      Q .normal { tmps := #[v0, v1, v2, v3, v4, v5, .pointer (some ⟨B, 0, none⟩), v7, v8, v9, v10, v11, v12, v13, v14, v15, v16, v17, v18, v19, v20, v21, v22, v23, v24, v25, v26, v27, v28, v29, v30, v31, v32, v33, v34, v35, v36, v37, v38, v39, v40, v41, v42, v43, v44, v45, v46, v47, v48, v49, v50, v51, v52, v53, v54, v55, v56, v57, v58, v59, v60, v61, v62, .func (.func 205) #[] #[.pointer (some ⟨Bs, bo, none⟩)], v64, v65, v66, v67, v68, v69, v70, v71, v72, v73, v74, v75, v76, v77, v78, v79], defers := [{ target := .collected D, args := #[] }] } W) :
    (rfOf (Try.f186.body.getD .skip)).wp Try.prog Q { tmps := #[v0, v1, v2, v3, v4, v5, .pointer (some ⟨B, 0, none⟩), v7, v8, v9, v10, v11, v12, v13, v14, v15, v16, v17, v18, v19, v20, v21, v22, v23, v24, v25, v26, v27, v28, v29, v30, v31, v32, v33, v34, v35, v36, v37, v38, v39, v40, v41, v42, v43, v44, v45, v46, v47, v48, v49, v50, v51, v52, v53, v54, v55, v56, v57, v58, v59, v60, v61, v62, .func (.func 205) #[] #[.pointer (some ⟨Bs, bo, none⟩)], v64, v65, v66, v67, v68, v69, v70, v71, v72, v73, v74, v75, v76, v77, v78, v79], defers := [] } w := by
  refine (wpIn_wide (n := 3)).1 ?_
  refine wpIn_of_rf rfl ?_
  refine wpIn_rangeFunc_ownG (F := Fence.wide) (n := 3) rfl (by omega) (gf := 205) (lb := #[.pointer (some ⟨Bs, bo, none⟩)]) rfl trivial (enters_of Try.func205 (by kernel_rfl) rfl)
    (encs := fun x : Int × Int => #[Value.int .i64 x.1, Value.int .u8 x.2]) (Kp := Kp w.heap.size B) (S := fun ys => ys = upto (fun j => ((len : Int) - 1 - j, zs[len - 1 - j]?.getD 0)) len) (Sp := fun _ => True) (N := len) (w0 := w)
    (fun l J Jx W hW _ _ hY h0 => back1_in Fence.wide 2 trivial rfl (by omega) l Bs bo w.heap.size B b off len cap zs hlen hb hbB hs hsB J Jx hY W ((hW.cell (p := ⟨Bs, bo, none⟩) hs).trans hBs) (fun j hj => (hW.cell (p := ⟨b, off + j, none⟩) hb).trans (hc j hj)) h0)
    (fun h k => h.trans k) (fun W l o o' hl h ho hw => ⟨rfl, rfl, rfl, by simp, fun k hk hg => World.putObj_heap_other (by omega)⟩) (Below.refl _ _) (fun _ => rfl)
    (fun pre W => Keeps (fun k => k = B) w W ∧ W.heap[B]? = some (.cells #[.int .u64 (uall n0 pre)] t (0, 0)))
    (fun _ _ _ => False)
    (fun s W W' row hs hg hr => ?own) (fun _ _ _ _ _ hs _ _ => hs)
    ⟨Keeps.refl _ _, hn⟩
    (fun x => { tmps := #[v0, v1, v2, v3, v4, v5, .pointer (some ⟨B, 0, none⟩), v7, .int .u8 x.2, v9, v10, v11, v12, v13, v14, v15, v16, v17, v18, v19, v20, v21, v22, v23, v24, v25, v26, v27, v28, v29, v30, v31, v32, v33, v34, v35, v36, v37, v38, v39, v40, v41, v42, v43, v44, v45, v46, v47, v48, v49, v50, v51, v52, v53, v54, v55, v56, v57, v58, v59, v60, v61, v62, .func (.func 205) #[] #[.pointer (some ⟨Bs, bo, none⟩)], .int .i64 x.1, .int .u8 x.2, v66, v67, v68, v69, v70, v71, v72, v73, v74, v75, v76, v77, v78, v79], defers := [] }) ?assign ?body ?done ?stop
  case own =>
    obtain ⟨hk, hB⟩ := hs
    have hsz := hk.size
    have hrB : ∀ k, k < w.heap.size → W'.heap[k]? = W.heap[k]? := fun k hk1 => hg.block k (by omega) (fun e => by have := (hr k e.symm).1; omega)
    exact ⟨⟨hg.os.trans hk.os, hg.tape.trans hk.tape, hg.output.trans hk.output, Nat.le_trans hsz hg.size, fun k h1 h2 => (hrB k h1).trans (hk.block k h1 h2)⟩, (hrB B hBw).trans hB⟩
  case assign =>
    intro l x W K hK
    gi_wp2
    exact hK
  case body =>
    rintro l pre x W ⟨hk, hB⟩ _
    have hcell : W.cell? ⟨B, 0, none⟩ = some (.int .u64 (uall n0 pre)) := by simp [World.cell?, hB]
    have hfr : W.frozen? ⟨B, 0, none⟩ = false := by simp [World.frozen?, hB]
    gi_wp2
    have hu : uall n0 (pre ++ [x]) = ustep (uall n0 pre) x.2 := by simp [uall]
    refine ⟨(KeepsOthers.setCell _ _ _).from _, ⟨rfl, rfl, rfl, by simp, fun k hk hg => Below.heap_setCell _ _ _ _ (fun e => hg (.inl e))⟩, ⟨hk.os, hk.tape, hk.output, by simpa using hk.size, fun k h1 h2 => (Below.heap_setCell _ _ _ _ h2).trans (hk.block k h1 h2)⟩, ?_⟩
    rw [hu]
    exact setCell_cells hB
  case done =>
    rintro D ys W hD rfl ⟨hk, hB⟩ hK
    exact hQ D W hD hk hB hK
  case stop =>
    rintro D c pre W _ _ h _
    exact h.elim

theorem range80 (f : Nat → Value) : (List.range 80).map f = [f 0, f 1, f 2, f 3, f 4, f 5, f 6, f 7, f 8, f 9, f 10, f 11, f 12, f 13, f 14, f 15, f 16, f 17, f 18, f 19, f 20, f 21, f 22, f 23, f 24, f 25, f 26, f 27, f 28, f 29, f 30, f 31, f 32, f 33, f 34, f 35, f 36, f 37, f 38, f 39, f 40, f 41, f 42, f 43, f 44, f 45, f 46, f 47, f 48, f 49, f 50, f 51, f 52, f 53, f 54, f 55, f 56, f 57, f 58, f 59, f 60, f 61, f 62, f 63, f 64, f 65, f 66, f 67, f 68, f 69, f 70, f 71, f 72, f 73, f 74, f 75, f 76, f 77, f 78, f 79] := by kernel_rfl
theorem arr80 (t : Array Value) (h : t.size = 80) : t = #[t.getD 0 undef, t.getD 1 undef, t.getD 2 undef, t.getD 3 undef, t.getD 4 undef, t.getD 5 undef, t.getD 6 undef, t.getD 7 undef, t.getD 8 undef, t.getD 9 undef, t.getD 10 undef, t.getD 11 undef, t.getD 12 undef, t.getD 13 undef, t.getD 14 undef, t.getD 15 undef, t.getD 16 undef, t.getD 17 undef, t.getD 18 undef, t.getD 19 undef, t.getD 20 undef, t.getD 21 undef, t.getD 22 undef, t.getD 23 undef, t.getD 24 undef, t.getD 25 undef, t.getD 26 undef, t.getD 27 undef, t.getD 28 undef, t.getD 29 undef, t.getD 30 undef, t.getD 31 undef, t.getD 32 undef, t.getD 33 undef, t.getD 34 undef, t.getD 35 undef, t.getD 36 undef, t.getD 37 undef, t.getD 38 undef, t.getD 39 undef, t.getD 40 undef, t.getD 41 undef, t.getD 42 undef, t.getD 43 undef, t.getD 44 undef, t.getD 45 undef, t.getD 46 undef, t.getD 47 undef, t.getD 48 undef, t.getD 49 undef, t.getD 50 undef, t.getD 51 undef, t.getD 52 undef, t.getD 53 undef, t.getD 54 undef, t.getD 55 undef, t.getD 56 undef, t.getD 57 undef, t.getD 58 undef, t.getD 59 undef, t.getD 60 undef, t.getD 61 undef, t.getD 62 undef, t.getD 63 undef, t.getD 64 undef, t.getD 65 undef, t.getD 66 undef, t.getD 67 undef, t.getD 68 undef, t.getD 69 undef, t.getD 70 undef, t.getD 71 undef, t.getD 72 undef, t.getD 73 undef, t.getD 74 undef, t.getD 75 undef, t.getD 76 undef, t.getD 77 undef, t.getD 78 undef, t.getD 79 undef] := by
  have e : t = ((List.range 80).map (fun i => t.getD i undef)).toArray := by
    apply Array.ext
    · simp [h]
    · intro i h1 h2
      simp [h1]
  exact e.trans (congrArg List.toArray (range80 (fun i => t.getD i undef)))

theorem ObOK.lt {h : Hp} {ρ : Nat → Px.Loc} {w : World} {id : Nat} {o : Ob} (ho : ObOK h ρ w id o) (hn : (ρ id).none = false) : ∃ x, w.heap[(ρ id).blk]? = some x ∧ ∀ d, x ≠ .deferred d := by
  cases o with
  | box cells => obtain ⟨_, ⟨cs, t, e, _⟩, _⟩ := ho; exact ⟨_, e, by simp⟩
  | own sz rows =>
    rcases ho with ⟨h1, _⟩ | ⟨_, ho⟩
    · rw [h1] at hn; cases hn
    · obtain ⟨cs, t, fz, e, _⟩ := ho.hblk; exact ⟨_, e, by simp⟩
  | mp es => obtain ⟨_, ⟨ents, cl, e, _⟩, _⟩ := ho; exact ⟨_, e, by simp⟩

def byR (r : List SV) : Int := match r with | [.val (.int _ x)] => x | _ => 0

theorem upto_snd (zs : List Int) : (upto (fun j => ((zs.length : Int) - 1 - j, zs[zs.length - 1 - j]?.getD 0)) zs.length).map (·.2) = zs.reverse := by
  apply List.ext_getElem
  · simp [upto]
  · intro i h1 h2
    simp at h2
    simp only [upto, List.getElem_map, List.getElem_range, List.getElem_reverse]
    rw [List.getElem?_eq_getElem (by omega)]; rfl

theorem uall_ufold (n : Int) (rows : List (List SV)) : uall n (upto (fun j => (((rows.map byR).length : Int) - 1 - j, (rows.map byR)[(rows.map byR).length - 1 - j]?.getD 0)) (rows.map byR).length) = ufold n rows := by
  have e : ∀ (l : List (Int × Int)) (n : Int), uall n l = (l.map (·.2)).foldl ustep n := by
    intro l; induction l with
    | nil => intro n; rfl
    | cons x l ih => intro n; exact ih _
  rw [e, upto_snd, ← List.map_reverse, List.foldl_map]
  rfl

theorem rf_sound {X : Cx} {h : Hp} {ρ : Nat → Px.Loc} {st : St} {a : Act} {w : World} (F : FitsAt X h ρ st a w) (hdf : X.df = []) {K : St → Prop} (hk : rfBack Try.f186.ntmps 205 63 6 st K) {Q : Exit → Act → World → Prop}
    (hQ : ∀ (D : Nat) (st' : St) (W : World), w.heap.size ≤ D → FitsAt X h ρ st' a W → K st' → W.heap[D]? = some (.deferred (some [])) → (∀ i, live st'.objs ρ i → (ρ i).blk < w.heap.size) → Q .normal { a with defers := [{ target := .collected D, args := #[] }] } W) :
    (rfOf (Try.f186.body.getD .skip)).wp Try.prog Q a w := by
  unfold rfBack at hk
  cases hnt : Nat.beq (lenN st.tmps) Try.f186.ntmps with
  | false => simp only [hnt, cond_false] at hk
  | true =>
  simp only [hnt, cond_true] at hk
  have hsz : st.tmps.length = 80 := by
    have e := Nat.eq_of_beq_eq_true hnt
    rw [Try.ntmps186, lenN_eq] at e
    exact e
  split at hk
  · rename_i f cs hcl
    split at hk
    · rename_i id hpt
      split at hk
      · rename_i n0 hob
        obtain ⟨rows, rfl, rfl, hby, hpos, h100, hK⟩ := hk
        have r63 := F.slot [] (by simp) 63
        rw [hcl] at r63
        have r6 := F.slot [] (by simp) 6
        rw [hpt] at r6
        have hB := F.obj _ _ hob
        obtain ⟨hnn, ⟨cells, t, hheap, hcs, hcv⟩, hno⟩ := hB
        have r6' : Rep h ρ (a.tmps.getD 6 undef) (.ptr id 0) := r6
        have r63' : Rep h ρ (a.tmps.getD 63 undef) (.clo 205 [.ref 0 [.slice 1 rows 0]]) := r63
        have e6 : a.tmps.getD 6 undef = .pointer (some ⟨(ρ id).blk, 0, none⟩) := by
          generalize a.tmps.getD 6 undef = v at r6'
          cases r6' with
          | pure _ _ hp => cases hp
          | ptr => rfl
        obtain ⟨Bs, bo, b, off, cap, e63, hcap, hrow⟩ : ∃ Bs bo b off cap, a.tmps.getD 63 undef = .func (.func 205) #[] #[.pointer (some ⟨Bs, bo, none⟩)] ∧ h Bs bo = some (.slice (some ⟨b, off, none⟩) rows.length cap) ∧
            ∀ (i : Nat) r, rows[i]? = some r → h b (off + i) = some (.int .u8 (byR r)) := by
          generalize a.tmps.getD 63 undef = v at r63'
          cases r63' with
          | pure _ _ hp =>
            cases hp with
            | clo _ vs _ hl hc =>
              simp at hl
              obtain ⟨u, rfl⟩ : ∃ u, vs = #[u] := by
                rcases vs with ⟨l⟩
                match l, hl with
                | [u], _ => exact ⟨u, rfl⟩
              have r1 := hc 0 u _ (by simp) (by simp; rfl)
              cases r1 with
              | ref bb base _ _ vs hh hr =>
                have h1 := hh 0 _ (by simp; rfl)
                have h2 := hr 0 _ (by simp; rfl)
                generalize vs 0 = u at h1 h2
                cases h2 with
                | empty => simp at hpos
                | slice b off cap _ _ _ vs2 hpos2 hz hh2 hr2 =>
                  refine ⟨bb, base + 0, b, off, cap, rfl, by simpa using h1, fun i r hi => ?_⟩
                  obtain ⟨m, rfl, _⟩ := hby r (List.mem_of_getElem? hi)
                  have q1 := hh2 i _ 0 _ hi (by simp; rfl)
                  have q2 := hr2 i _ 0 _ hi (by simp; rfl)
                  generalize vs2 i 0 = u2 at q1 q2
                  cases q2
                  simpa [byR] using q1
        have hcell0 : cells = #[.int .u64 n0] := by
          simp at hcs
          rcases cells with ⟨l⟩
          match l, hcs with
          | [u], _ =>
            have := (hcv 0 u _ (by simp) (by simp; rfl)).1
            cases this with
            | pure _ _ hp => cases hp; rfl
        subst hcell0
        have hne : ∀ b o v, h b o = some v → b ≠ (ρ id).blk ∧ b < w.heap.size := by
          intro b o v e
          refine ⟨fun e' => (by subst e'; rw [hno o] at e; cases e), ?_⟩
          have := F.sub b o v e
          refine Classical.byContradiction fun hn => ?_
          have hnone : w.heap[b]? = none := Array.getElem?_eq_none (by omega)
          simp [World.cell?, hnone] at this
        have hBw : (ρ id).blk < w.heap.size := (Array.getElem?_eq_some_iff.1 hheap).1
        have hpos' : 0 < rows.length := by simpa using hpos
        have hb0 := hrow 0 rows[0] (List.getElem?_eq_getElem hpos')
        have hbb := hne _ _ _ hb0
        have hBB := hne _ _ _ hcap
        have ha80 : a.tmps.size = 80 := F.size.trans hsz
        have harr := arr80 a.tmps ha80
        have ha : a = { tmps := #[a.tmps.getD 0 undef, a.tmps.getD 1 undef, a.tmps.getD 2 undef, a.tmps.getD 3 undef, a.tmps.getD 4 undef, a.tmps.getD 5 undef, .pointer (some ⟨(ρ id).blk, 0, none⟩), a.tmps.getD 7 undef, a.tmps.getD 8 undef, a.tmps.getD 9 undef, a.tmps.getD 10 undef, a.tmps.getD 11 undef, a.tmps.getD 12 undef, a.tmps.getD 13 undef, a.tmps.getD 14 undef, a.tmps.getD 15 undef, a.tmps.getD 16 undef, a.tmps.getD 17 undef, a.tmps.getD 18 undef, a.tmps.getD 19 undef, a.tmps.getD 20 undef, a.tmps.getD 21 undef, a.tmps.getD 22 undef, a.tmps.getD 23 undef, a.tmps.getD 24 undef, a.tmps.getD 25 undef, a.tmps.getD 26 undef, a.tmps.getD 27 undef, a.tmps.getD 28 undef, a.tmps.getD 29 undef, a.tmps.getD 30 undef, a.tmps.getD 31 undef, a.tmps.getD 32 undef, a.tmps.getD 33 undef, a.tmps.getD 34 undef, a.tmps.getD 35 undef, a.tmps.getD 36 undef, a.tmps.getD 37 undef, a.tmps.getD 38 undef, a.tmps.getD 39 undef, a.tmps.getD 40 undef, a.tmps.getD 41 undef, a.tmps.getD 42 undef, a.tmps.getD 43 undef, a.tmps.getD 44 undef, a.tmps.getD 45 undef, a.tmps.getD 46 undef, a.tmps.getD 47 undef, a.tmps.getD 48 undef, a.tmps.getD 49 undef, a.tmps.getD 50 undef, a.tmps.getD 51 undef, a.tmps.getD 52 undef, a.tmps.getD 53 undef, a.tmps.getD 54 undef, a.tmps.getD 55 undef, a.tmps.getD 56 undef, a.tmps.getD 57 undef, a.tmps.getD 58 undef, a.tmps.getD 59 undef, a.tmps.getD 60 undef, a.tmps.getD 61 undef, a.tmps.getD 62 undef, .func (.func 205) #[] #[.pointer (some ⟨Bs, bo, none⟩)], a.tmps.getD 64 undef, a.tmps.getD 65 undef, a.tmps.getD 66 undef, a.tmps.getD 67 undef, a.tmps.getD 68 undef, a.tmps.getD 69 undef, a.tmps.getD 70 undef, a.tmps.getD 71 undef, a.tmps.getD 72 undef, a.tmps.getD 73 undef, a.tmps.getD 74 undef, a.tmps.getD 75 undef, a.tmps.getD 76 undef, a.tmps.getD 77 undef, a.tmps.getD 78 undef, a.tmps.getD 79 undef], defers := [] } := by
          have e1 : a.tmps = #[a.tmps.getD 0 undef, a.tmps.getD 1 undef, a.tmps.getD 2 undef, a.tmps.getD 3 undef, a.tmps.getD 4 undef, a.tmps.getD 5 undef, .pointer (some ⟨(ρ id).blk, 0, none⟩), a.tmps.getD 7 undef, a.tmps.getD 8 undef, a.tmps.getD 9 undef, a.tmps.getD 10 undef, a.tmps.getD 11 undef, a.tmps.getD 12 undef, a.tmps.getD 13 undef, a.tmps.getD 14 undef, a.tmps.getD 15 undef, a.tmps.getD 16 undef, a.tmps.getD 17 undef, a.tmps.getD 18 undef, a.tmps.getD 19 undef, a.tmps.getD 20 undef, a.tmps.getD 21 undef, a.tmps.getD 22 undef, a.tmps.getD 23 undef, a.tmps.getD 24 undef, a.tmps.getD 25 undef, a.tmps.getD 26 undef, a.tmps.getD 27 undef, a.tmps.getD 28 undef, a.tmps.getD 29 undef, a.tmps.getD 30 undef, a.tmps.getD 31 undef, a.tmps.getD 32 undef, a.tmps.getD 33 undef, a.tmps.getD 34 undef, a.tmps.getD 35 undef, a.tmps.getD 36 undef, a.tmps.getD 37 undef, a.tmps.getD 38 undef, a.tmps.getD 39 undef, a.tmps.getD 40 undef, a.tmps.getD 41 undef, a.tmps.getD 42 undef, a.tmps.getD 43 undef, a.tmps.getD 44 undef, a.tmps.getD 45 undef, a.tmps.getD 46 undef, a.tmps.getD 47 undef, a.tmps.getD 48 undef, a.tmps.getD 49 undef, a.tmps.getD 50 undef, a.tmps.getD 51 undef, a.tmps.getD 52 undef, a.tmps.getD 53 undef, a.tmps.getD 54 undef, a.tmps.getD 55 undef, a.tmps.getD 56 undef, a.tmps.getD 57 undef, a.tmps.getD 58 undef, a.tmps.getD 59 undef, a.tmps.getD 60 undef, a.tmps.getD 61 undef, a.tmps.getD 62 undef, .func (.func 205) #[] #[.pointer (some ⟨Bs, bo, none⟩)], a.tmps.getD 64 undef, a.tmps.getD 65 undef, a.tmps.getD 66 undef, a.tmps.getD 67 undef, a.tmps.getD 68 undef, a.tmps.getD 69 undef, a.tmps.getD 70 undef, a.tmps.getD 71 undef, a.tmps.getD 72 undef, a.tmps.getD 73 undef, a.tmps.getD 74 undef, a.tmps.getD 75 undef, a.tmps.getD 76 undef, a.tmps.getD 77 undef, a.tmps.getD 78 undef, a.tmps.getD 79 undef] := by
            rw [e6, e63] at harr
            exact harr
          have e2 : a.defers = [] := F.df.trans hdf
          have e0 : a = ⟨a.tmps, a.defers⟩ := rfl
          exact e0.trans (congr (congrArg Act.mk e1) e2)
        have h100' : rows.length ≤ 100 := by have := h100; rw [rlen_eq] at this; omega
        have core := rf_core (a.tmps.getD 0 undef) (a.tmps.getD 1 undef) (a.tmps.getD 2 undef) (a.tmps.getD 3 undef) (a.tmps.getD 4 undef) (a.tmps.getD 5 undef) (a.tmps.getD 7 undef) (a.tmps.getD 8 undef) (a.tmps.getD 9 undef) (a.tmps.getD 10 undef) (a.tmps.getD 11 undef) (a.tmps.getD 12 undef) (a.tmps.getD 13 undef) (a.tmps.getD 14 undef) (a.tmps.getD 15 undef) (a.tmps.getD 16 undef) (a.tmps.getD 17 undef) (a.tmps.getD 18 undef) (a.tmps.getD 19 undef) (a.tmps.getD 20 undef) (a.tmps.getD 21 undef) (a.tmps.getD 22 undef) (a.tmps.getD 23 undef) (a.tmps.getD 24 undef) (a.tmps.getD 25 undef) (a.tmps.getD 26 undef) (a.tmps.getD 27 undef) (a.tmps.getD 28 undef) (a.tmps.getD 29 undef) (a.tmps.getD 30 undef) (a.tmps.getD 31 undef) (a.tmps.getD 32 undef) (a.tmps.getD 33 undef) (a.tmps.getD 34 undef) (a.tmps.getD 35 undef) (a.tmps.getD 36 undef) (a.tmps.getD 37 undef) (a.tmps.getD 38 undef) (a.tmps.getD 39 undef) (a.tmps.getD 40 undef) (a.tmps.getD 41 undef) (a.tmps.getD 42 undef) (a.tmps.getD 43 undef) (a.tmps.getD 44 undef) (a.tmps.getD 45 undef) (a.tmps.getD 46 undef) (a.tmps.getD 47 undef) (a.tmps.getD 48 undef) (a.tmps.getD 49 undef) (a.tmps.getD 50 undef) (a.tmps.getD 51 undef) (a.tmps.getD 52 undef) (a.tmps.getD 53 undef) (a.tmps.getD 54 undef) (a.tmps.getD 55 undef) (a.tmps.getD 56 undef) (a.tmps.getD 57 undef) (a.tmps.getD 58 undef) (a.tmps.getD 59 undef) (a.tmps.getD 60 undef) (a.tmps.getD 61 undef) (a.tmps.getD 62 undef) (a.tmps.getD 64 undef) (a.tmps.getD 65 undef) (a.tmps.getD 66 undef) (a.tmps.getD 67 undef) (a.tmps.getD 68 undef) (a.tmps.getD 69 undef) (a.tmps.getD 70 undef) (a.tmps.getD 71 undef) (a.tmps.getD 72 undef) (a.tmps.getD 73 undef) (a.tmps.getD 74 undef) (a.tmps.getD 75 undef) (a.tmps.getD 76 undef) (a.tmps.getD 77 undef) (a.tmps.getD 78 undef) (a.tmps.getD 79 undef) (ρ id).blk Bs bo b off (rows.map byR).length cap t n0 (rows.map byR) w Q (by simpa using h100') hBw hbb.2 hbb.1 hBB.2 hBB.1
          (by simpa using F.sub _ _ _ hcap) (fun j hj => by
            have hj : j < rows.length := by simpa using hj
            have := F.sub _ _ _ (hrow j rows[j] (List.getElem?_eq_getElem hj))
            simpa [hj] using this) hheap
        rw [ha]
        refine core (fun D W hD hkp hBv hDd => ?_)
        rw [uall_ufold] at hBv
        have F1 := F.setOb id _ (.box [.val (.int .u64 (ufold n0 rows))]) (w.setCell ⟨(ρ id).blk, 0, none⟩ (.int .u64 (ufold n0 rows))) hob hnn
          ⟨hnn, ⟨_, t, setCell_cells hheap, rfl, fun i v c hv hc => by
            cases i with
            | zero => simp at hv hc; subst hv; subst hc; exact ⟨.pure _ _ (.val _), rfl⟩
            | succ i => simp at hv⟩, hno⟩
          (fun k hk => Below.heap_setCell _ _ _ _ hk) ⟨rfl, rfl, rfl, by simp, fun k _ hk => Below.heap_setCell _ _ _ _ hk⟩
        have F2 := F1.made (w' := W) ⟨hkp.os, hkp.tape, hkp.output, by simpa using hkp.size, fun k hk1 _ => by
          by_cases e : k = (ρ id).blk
          · subst e; rw [hBv, setCell_cells hheap]
          · rw [Below.heap_setCell _ _ _ _ e]; exact hkp.block k (by simpa using hk1) e⟩
        have := hQ D _ W hD F2 hK hDd (fun i ⟨⟨o, ho⟩, hn⟩ => by
          obtain ⟨x, hx, _⟩ := ObOK.lt (F1.obj i o ho) hn
          have := (Array.getElem?_eq_some_iff.1 hx).1
          simpa using this)
        rw [ha] at this
        exact this
      · exact hk.elim
    · exact hk.elim
  · exact hk.elim

open Classical in
theorem uint_of (Sg : FuncId → Sig) (Sv : TypeId → Sig) (L : Nat → Option LoopSpec) {args : List SV} {Q : List SV → Prop} {Y : Prop} (e : Y = vcB Try.prog Sg Sv L Try.f186 {} args Q 205 63 6) (hY : Y) : Ct Try.prog 186 {} args Q := by
  have hv := e.mp hY
  unfold vcB at hv
  split at hv
  · rename_i c hb
    have hRF : hasRF c = true := by
      have : Try.f186.body.map hasRF = some true := by kernel_rfl
      rw [hb] at this; simpa using this
    have hone : spineOne c = true := by
      have : Try.f186.body.map spineOne = some true := by kernel_rfl
      rw [hb] at this; simpa using this
    have hname : Try.f186.name ≠ "runtime.NumGoroutine" := by
      have : (Try.f186.name == "runtime.NumGoroutine") = false := by kernel_rfl
      intro e; rw [e] at this; simp at this
    refine ⟨⟨Try.f186, Try.func186, by rw [hb]; rfl, hname⟩, fun hs objs hargs h ρ w vs hH hrep => ?_⟩
    refine (callsIn_wide (n := 3)).1 (callsIn_of_wp_marks Try.func186 hb trivial ((wpIn_wide).2 ?_) rfl)
    have hst : Px.start Try.f186 {} args = { tmps := hs ++ List.replicate (Try.f186.ntmps - hs.length) .unk, objs := objs } := by
      simp only [Px.start, hargs]
    rw [hst] at hv
    have hlen : vs.size = hs.length := by have := hrep.1; simpa using this
    let X : Cx := { w := w, h := h, G := Gv objs ρ, pin := fun id => if ∃ i ms, ({} : Sig).ps[i]? = some (.lend ms) ∧ id = pId i then some (ρ id) else none }
    have F : FitsAt X h ρ { tmps := hs ++ List.replicate (Try.f186.ntmps - hs.length) .unk, objs := objs } { tmps := vs ++ Array.replicate (Try.f186.ntmps - vs.size) undef, defers := [] } w := by
      refine ⟨by simp [hlen], fun t s hs' => ?_, rfl, hH.sub, fun id o ho => hH.obj id o (oget_mem ho), hH.inj, fun i hi => .inr ⟨i, hi, rfl⟩, HLe.refl _, fun _ _ _ _ e => e, Keeps.refl _ _, fun id l hp => ?_⟩
      · simp only [] at hs'
        rw [List.getElem?_append] at hs'
        by_cases ht : t < hs.length
        · rw [if_pos ht] at hs'
          have hv' : (vs ++ Array.replicate (Try.f186.ntmps - vs.size) undef).getD t undef = vs[t]'(by omega) := by
            simp [Array.getElem?_append, hlen, ht]
          simp only [hv']
          exact TRep.of_rep' (hrep.2 t _ s (by simp) hs')
        · rw [if_neg ht] at hs'
          rw [List.getElem?_replicate] at hs'
          split at hs'
          · cases hs'; exact TRep.rep_unk _ _
          · cases hs'
      · simp only [X] at hp
        split at hp
        · rename_i hx
          obtain ⟨i, ms, h1, rfl⟩ := hx
          simp at h1
        · cases hp
    refine front_sound Sg Sv L c hRF X _ _ _ _ _ ?_ ?_ ⟨h, ρ, F⟩ hv
    · intro e st a w' he hF hq
      cases e with
      | normal => exact absurd rfl he
      | exit id => exact hq.elim
      | ret =>
        obtain ⟨h1, v, h2, h3⟩ := fin_key (ds := []) hF hq
        show LeavesInM _ _ _ _ _ _ a.defers _ _
        rw [h1]
        exact ⟨v, h2, h3⟩
    · rintro st a w' ⟨h1, ρ1, F1⟩ hq
      rw [backWp_one c _ hone]
      have hrf : rfOf c = rfOf (Try.f186.body.getD .skip) := by rw [hb]; rfl
      rw [hrf]
      refine rf_sound F1 rfl hq (fun D st' W hD F2 hvt hDd hlive => ?_)
      show (tlOf c).wp Try.prog _ _ W
      have hDW : D < W.heap.size := (Array.getElem?_eq_some_iff.1 hDd).1
      have hXD : X.w.heap.size ≤ D := Nat.le_trans F1.kp.size hD
      refine vc_sound Sg Sv L (tlOf c) _ st' _ W _ _ ?_ ⟨_, _, F2.restand [{ target := .collected D, args := #[] }]⟩ hvt
      rintro e st3 a3 w3 ⟨h3, ρ3, F3⟩ _ he
      have hDd3 : w3.heap[D]? = some (.deferred (some [])) := by
        rw [F3.kp.block D hDW (fun hg => ?_)]
        · exact hDd
        · obtain ⟨i, hi, hd⟩ := hg
          have := hlive i hi
          omega
      have F4 := F2.based F3
      have F5 := F4.touch (w' := w3.putObj D (.deferred none)) D (fun i hi hd => by
          obtain ⟨⟨o, ho⟩, hn⟩ := hi
          obtain ⟨x, hx, hne⟩ := ObOK.lt (F3.obj i o ho) hn
          rw [hd, hDd3] at hx
          cases hx
          exact hne _ rfl)
        (fun o => by
          cases e : h3 D o with
          | none => rfl
          | some v =>
            have := F3.sub D o v e
            simp [World.cell?, hDd3] at this)
        (.inl hXD) (fun k hk => World.putObj_heap_other hk) ⟨rfl, rfl, rfl, by simp, fun k _ hk => World.putObj_heap_other hk⟩
      have key : finC Try.prog Try.f186 {} Q st3 → LeavesInM Fence.wide 3 Try.prog Try.f186 a3.tmps (Back {} objs h ρ w Q) a3.defers .returning w3 := by
        intro hfin
        obtain ⟨q1, v, q2, q3⟩ := fin_key (ds := [{ target := .collected D, args := #[] }]) ⟨h3, ρ3, F5⟩ hfin
        rw [q1]
        exact ⟨by simp, .inl ⟨D, _, rfl, run_takeDeferred hDd3, ⟨v, q2, q3⟩⟩⟩
      cases e with
      | normal => exact key he
      | ret => exact key he
      | exit id => exact he.elim
  · exact hv.elim

end Go.Proofs.Ytpgahnnbpfeldaa.Cod
