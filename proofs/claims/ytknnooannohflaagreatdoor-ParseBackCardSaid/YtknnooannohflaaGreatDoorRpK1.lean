/- byteStringReplacer.Replace: parts. -/
import Derived.Test.YtknnooannohflaaGreatDoorRpH
import Derived.Handy
import Derived.LoopN
import Derived.RegionTactic
import Derived.ChangeAlike
import Derived.Laws.IdiomCopy
import Derived.Test.YtknnooannohflaaGreatDoorRpE1
namespace Go.Proofs.YtknnooannohflaaGreatDoor.Rp
open Go Go.Proofs Go.RowKit

theorem RepW.row {B T : Nat} {ks : List UInt8} {f : UInt8 → Option ByteArray} {w w' : World} (h : RepW B T ks f w) {n : Nat} (hb : Below n w w') (hB : B < n) (hT : T < n) (hD : ∀ c s D q, f c = some s → w.cell? ⟨B, c.toNat, none⟩ = some (.slice (some ⟨D, 0, none⟩) s.size q) → D < n) : RepW B T ks f w' := by
 refine ⟨(hb.cell hB).trans h.tot, fun j k hj => (hb.cell hT).trans (h.key j k hj), fun c hc => (hb.cell hB).trans (h.non c hc), fun c s hs => ?_⟩
 obtain ⟨D, q, h1, h2⟩ := h.yes c s hs
 exact ⟨D, q, (hb.cell hB).trans h1, fun j hj => (hb.cell (hD c s D q hs h1)).trans (h2 j hj)⟩

def hits (f : UInt8 → Option ByteArray) (l : List UInt8) : Nat := l.countP fun c => (f c).isSome
def cnts (ks : List UInt8) (l : List UInt8) : Nat := (ks.map fun κ => l.count κ).sum
def rp (f : UInt8 → Option ByteArray) (c : UInt8) : List UInt8 := match f c with | some r => r.data.toList | none => [c]
def rpl (f : UInt8 → Option ByteArray) (l : List UInt8) : List UInt8 := l.flatMap (rp f)
theorem neq_nil (w : World) : (binOp .neq 71 (.slice none 0 0) (.slice none 0 0)).run Tryz.prog w = .ok (.bool false) w := by kernel_rfl
theorem neq_row (D : Addr) (n q : Nat) (w : World) : (binOp .neq 71 (.slice (some D) n q) (.slice none 0 0)).run Tryz.prog w = .ok (.bool true) w := by kernel_rfl
theorem at_get (s : ByteArray) {k : Nat} (h : k < s.size) : s.data.toList[k]? = some (s[k]'h) := by
 rw [Array.getElem?_toList]; exact Array.getElem?_eq_getElem h
theorem hits_succ (f : UInt8 → Option ByteArray) (s : ByteArray) (k : Nat) (h : k < s.size) : hits f (s.data.toList.take (k + 1)) = hits f (s.data.toList.take k) + if (f s[k]).isSome then 1 else 0 := by
 rw [List.take_add_one, at_get s h, hits, List.countP_append]
 simp [hits]
theorem hits_le (f : UInt8 → Option ByteArray) (l : List UInt8) : hits f l ≤ l.length := List.countP_le_length
theorem hits_take (f : UInt8 → Option ByteArray) (l : List UInt8) (k : Nat) : hits f (l.take k) ≤ hits f l := (List.take_sublist k l).countP_le
theorem wrap64_small {x : Int} (h0 : -9223372036854775808 ≤ x) (h1 : x ≤ 9223372036854775807) : wrap64 x = x := by
 unfold wrap64; omega
theorem rpl_succ (f : UInt8 → Option ByteArray) (s : ByteArray) (k : Nat) (h : k < s.size) : rpl f (s.data.toList.take (k + 1)) = rpl f (s.data.toList.take k) ++ rp f s[k] := by
 rw [List.take_add_one, at_get s h, rpl, List.flatMap_append]
 simp [rpl]
theorem rp_len {f : UInt8 → Option ByteArray} (hr : ∀ c r, f c = some r → r.size = 2) (c : UInt8) : (rp f c).length = 1 + if (f c).isSome then 1 else 0 := by
 unfold rp
 cases h : f c with
 | none => rfl
 | some r => have := hr c r h; simp only [Option.isSome_some, if_true]; rw [Array.length_toList]; exact this
theorem rpl_len {f : UInt8 → Option ByteArray} (hr : ∀ c r, f c = some r → r.size = 2) : ∀ l : List UInt8, (rpl f l).length = l.length + hits f l
 | [] => rfl
 | c :: l => by
  rw [show rpl f (c :: l) = rp f c ++ rpl f l from rfl, List.length_append, rp_len hr, rpl_len hr l]
  simp only [hits, List.countP_cons, List.length_cons]
  omega
theorem rpl_none {f : UInt8 → Option ByteArray} : ∀ l : List UInt8, hits f l = 0 → rpl f l = l
 | [], _ => rfl
 | c :: l, h => by
  rw [hits, List.countP_cons] at h
  have h1 : (f c).isSome = false := by
   cases e : (f c).isSome with
   | false => rfl
   | true => rw [e] at h; simp at h
  have h2 : f c = none := by simpa using h1
  rw [show rpl f (c :: l) = rp f c ++ rpl f l from rfl, rpl_none l (by rw [hits]; omega)]
  simp [rp, h2]
theorem cnts_cons (κ : UInt8) (ks l : List UInt8) : cnts (κ :: ks) l = l.count κ + cnts ks l := rfl
theorem cnts_nil : ∀ ks : List UInt8, cnts ks [] = 0
 | [] => rfl
 | κ :: ks => by rw [cnts_cons, cnts_nil ks]; rfl
theorem cnts_step (c : UInt8) (l : List UInt8) : ∀ (ks : List UInt8), ks.Nodup → cnts ks (c :: l) = cnts ks l + if c ∈ ks then 1 else 0
 | [], _ => rfl
 | κ :: ks, hnd => by
  obtain ⟨h1, h2⟩ := List.nodup_cons.1 hnd
  rw [cnts_cons, cnts_cons, cnts_step c l ks h2, List.count_cons]
  by_cases e : c = κ
  ·subst e
   rw [if_neg h1, if_pos (by simp), if_pos (by simp)]
   omega
  ·rw [if_neg (by simpa using e)]
   by_cases e2 : c ∈ ks
   ·rw [if_pos e2, if_pos (by simp [e2])]; omega
   ·rw [if_neg e2, if_neg (by simp [e, e2])]; omega
theorem cnts_take : ∀ (ks : List UInt8) (k : Nat) (l : List UInt8), cnts (ks.take k) l ≤ cnts ks l
 | [], k, l => by simp
 | κ :: ks, 0, l => Nat.zero_le _
 | κ :: ks, k + 1, l => by
  have := cnts_take ks k l
  rw [List.take_succ_cons, cnts_cons, cnts_cons]; omega
theorem cnts_hits {f : UInt8 → Option ByteArray} {ks : List UInt8} (hnd : ks.Nodup) (hks : ∀ κ, κ ∈ ks ↔ (f κ).isSome = true) : ∀ l : List UInt8, cnts ks l = hits f l
 | [] => cnts_nil ks
 | c :: l => by
  have ih := cnts_hits hnd hks l
  rw [hits, List.countP_cons, ← hits, ← ih, cnts_step c l ks hnd]
  by_cases e : c ∈ ks
  ·rw [if_pos e, if_pos ((hks c).1 e)]
  ·rw [if_neg e, if_neg (fun q => e ((hks c).2 q))]

structure Fill (N n : Nat) (out : List UInt8) (w0 wr : World) : Prop where
 below : Below N w0 wr
 has : ∀ j, j < n → (wr.cell? ⟨N, j, none⟩).isSome = true
 fro : ∀ j, j < n → wr.frozen? ⟨N, j, none⟩ = false
 out : ∀ j (h : j < out.length), wr.cell? ⟨N, j, none⟩ = some (.int .u8 (out[j].toNat : Int))
theorem Fill.one {N n : Nat} {out : List UInt8} {w0 wr : World} (h : Fill N n out w0 wr) (c : UInt8) (hn : out.length < n) : Fill N n (out ++ [c]) w0 (wr.setCell ⟨N, out.length, none⟩ (.int .u8 (c.toNat : Int))) := by
 refine ⟨h.below.setCell (Nat.le_refl _) _, fun j hj => ?_, fun j hj => by rw [World.frozen?_setCell]; exact h.fro j hj, fun j hj => ?_⟩
 ·by_cases e : j = out.length
  ·subst e
   obtain ⟨u, hu⟩ := Option.isSome_iff_exists.1 (h.has _ hj)
   rw [World.cell?_setCell_same _ _ _ hu]; rfl
  ·rw [World.cell?_setCell_other _ _ _ _ (fun q => e (Addr.mk.inj q).2.1.symm)]; exact h.has j hj
 ·rw [List.length_append] at hj
  by_cases e : j = out.length
  ·subst e
   obtain ⟨u, hu⟩ := Option.isSome_iff_exists.1 (h.has _ hn)
   rw [World.cell?_setCell_same _ _ _ hu]
   simp
  ·rw [World.cell?_setCell_other _ _ _ _ (fun q => e (Addr.mk.inj q).2.1.symm), h.out j (by simp at hj; omega), List.getElem_append_left (by simp at hj; omega)]
theorem below_setCells {N : Nat} {a : World} : ∀ (vs : List Value) (o : Nat) (w : World), Below N a w → Below N a (w.setCells N o vs)
 | [], _, _, h => h
 | _ :: r, o, _, h => below_setCells r (o + 1) _ (h.setCell (Nat.le_refl _) _)
theorem Fill.many {N n : Nat} {out : List UInt8} {w0 wr : World} (h : Fill N n out w0 wr) (r : List UInt8) (hn : out.length + r.length ≤ n) : Fill N n (out ++ r) w0 (wr.setCells N out.length (r.map fun c => .int .u8 (c.toNat : Int))) := by
 have hin := World.cell?_setCells_in N (r.map fun c => Value.int .u8 (c.toNat : Int)) out.length wr (fun j hj => h.has _ (by simp at hj; omega))
 have hout := fun (x : Addr) hx => World.cell?_setCells_out N (r.map fun c => Value.int .u8 (c.toNat : Int)) out.length wr x hx
 refine ⟨below_setCells _ _ _ h.below, fun j hj => ?_, fun j hj => by rw [World.frozen?_setCells]; exact h.fro j hj, fun j hj => ?_⟩
 ·by_cases e : j < out.length ∨ out.length + r.length ≤ j
  ·rw [hout _ (fun _ _ => by simpa using e)]; exact h.has j hj
  ·have := hin (j - out.length) (by simp; omega)
   rw [show out.length + (j - out.length) = j by omega] at this
   rw [this]; rfl
 ·by_cases e : j < out.length
  ·rw [hout _ (fun _ _ => Or.inl e), h.out j e, List.getElem_append_left e]
  ·rw [List.length_append] at hj
   have := hin (j - out.length) (by simp; omega)
   rw [show out.length + (j - out.length) = j by omega] at this
   rw [this, List.getElem_append_right (by omega)]
   simp
theorem Fill.drew {N n : Nat} {out : List UInt8} {w0 wr : World} (h : Fill N n out w0 wr) : Fill N n out w0 wr.drew := ⟨h.below.drew, h.has, h.fro, h.out⟩
theorem fill_new (w : World) (n : Nat) : Fill w.heap.size n [] w (w.alloc (.cells (madeCells #[.int .u8 0] n) 5)) := by
 refine ⟨(Below.refl _ w).alloc (Nat.le_refl _) _, fun j hj => ?_, fun j hj => World.frozen?_alloc_new _ _ _ _, fun j hj => absurd hj (Nat.not_lt_zero _)⟩
 rw [World.cell?_alloc_new, Array.getElem?_eq_getElem (by rw [size_madeCells]; exact hj)]
 rfl
theorem make_71 (w : World) (n : Nat) (hn : n ≤ 16000000) : (Instr.makeSlice 71 (.int .i64 (n : Int)) (.int .i64 (n : Int))).run Tryz.prog w = .ok (.slice (some ⟨w.heap.size, 0, none⟩) n n) (w.alloc (.cells (madeCells #[.int .u8 0] n) 5)) := by
 have his : Tryz.t5.size = 1 := by kernel_rfl
 have hib : Tryz.t5.bytes = 1 := by kernel_rfl
 have := run_makeSlice w (P := Tryz.prog) 71 5 Tryz.t5 (.int .u8 0) (by kernel_rfl) (by kernel_rfl) (by kernel_rfl) .i64 .i64 n n (by omega) (by omega) (by rw [his]; omega) (by rw [hib]; omega) (by omega)
 rw [this, his]
 simp [Value.cells]

set_option maxHeartbeats 8000000 in
set_option maxRecDepth 100000 in
theorem repl_walk (B T : Nat) (ks : List UInt8) (f : UInt8 → Option ByteArray) (s : ByteArray) (w : World) (h : RepW B T ks f w) (hk : ks.length ≤ 3) (hk0 : 0 < ks.length) (hs : s.size ≤ 5000000) (hr : ∀ c r, f c = some r → r.size = 2) (hks : ∀ κ, κ ∈ ks ↔ (f κ).isSome = true) (hnd : ks.Nodup) :
  Calls Tryz.prog 264 #[.pointer (some ⟨B, 0, none⟩), .string s] w fun e w' => e = .returned (.string ⟨(rpl f s.data.toList).toArray⟩) ∧ Below w.heap.size w w' := by
 have htot := h.tot
 have hfin : ∀ l : List UInt8, l = s.data.toList → (ByteArray.mk l.toArray) = s := fun l e => by subst e; simp
 have hB : B < w.heap.size := World.block_lt_of_cell? w _ htot
 have hT : 0 < ks.length → T < w.heap.size := fun q => World.block_lt_of_cell? w _ (h.key 0 _ (List.getElem?_eq_getElem q))
 have hD : ∀ c s D q, f c = some s → w.cell? ⟨B, c.toNat, none⟩ = some (.slice (some ⟨D, 0, none⟩) s.size q) → D < w.heap.size := fun c r D q h1 h2 => by
  obtain ⟨D', q', h3, h4⟩ := h.yes c r h1
  rw [h2] at h3; cases h3
  exact World.block_lt_of_cell? w _ (h4 0 (by rw [hr c r h1]; omega))
 have hle : hits f s.data.toList ≤ s.size := by have := hits_le f s.data.toList; rw [Array.length_toList] at this; exact this
 have mk0 : ∀ (κ : UInt8) (h : 0 < (ByteArray.mk #[κ]).size), (ByteArray.mk #[κ])[0]'h = κ := fun _ _ => rfl
 by_cases hcond : (ks.length : Int) * 8 ≤ (s.size : Int)
 ·have hdec : decide ((ks.length : Int) * 8 ≤ (s.size : Int)) = true := decide_eq_true hcond
  go_enter Tryz.func264, Tryz.ntmps264
  go_wp2
  go_loopw [5, 6, 32] (fun n ch i wr => ∃ k : Nat, k ≤ ks.length ∧ i = .int .i64 k ∧ n = .int .i64 (s.size + cnts (ks.take k) s.data.toList : Nat) ∧ ch = .bool (decide (cnts (ks.take k) s.data.toList ≠ 0)) ∧ Below w.heap.size w wr) (fun _ _ i _ => ks.length - (intOf i).toNat)
  case atStart => exact ⟨0, Nat.zero_le _, rfl, by simp [cnts], by simp [cnts], Below.refl _ _⟩
  case round =>
   obtain ⟨k, hk', rfl, rfl, rfl, hbw⟩ := hrel
   by_cases hlt : k < ks.length
   ·have hR : RepW B T ks f wr := h.row hbw hB (hT (by omega)) hD
    have hsome : (f (ks[k]'hlt)).isSome = true := (hks _).1 (List.getElem_mem hlt)
    obtain ⟨r, hf⟩ := Option.isSome_iff_exists.1 hsome
    have hkey := hR.key k (ks[k]'hlt) (List.getElem?_eq_getElem hlt)
    obtain ⟨D, q, hc, _⟩ := hR.yes _ _ hf
    have hr2 := hr _ _ hf
    rw [hr2] at hc
    have htot2 := hR.tot
    have h256 : ((ks[k]'hlt).toNat : Int) < 256 := by have := UInt8.toNat_lt (ks[k]'hlt); omega
    have hsu : cnts (ks.take (k + 1)) s.data.toList = cnts (ks.take k) s.data.toList + s.data.toList.count (ks[k]'hlt) := by
     rw [List.take_add_one, List.getElem?_eq_getElem hlt, cnts, List.map_append, List.sum_append]
     simp [cnts]
    have hcb : Lib.countByte s.data.toList (ks[k]'hlt) = List.count (ks[k]'hlt) s.data.toList := rfl
    have hct : s.data.toList.count (ks[k]'hlt) ≤ s.size := by have := List.count_le_length (a := ks[k]'hlt) (l := s.data.toList); rw [Array.length_toList] at this; exact this
    have hcn : cnts (ks.take k) s.data.toList ≤ 3 * s.size := by
     have e := cnts_take ks k s.data.toList
     rw [cnts_hits hnd hks] at e
     have := hits_le f s.data.toList
     rw [Array.length_toList] at this
     have : s.data.size = s.size := rfl
     omega
    clear h hD hT
    go_wp2_with (go_at_call 266; refine (count_one s _ _).mono ?_; rintro e w' ⟨rfl, rfl⟩)
    ·have hcb' : Lib.countByte s.data.toList (ks[k]'hlt) ≤ s.size := by rw [hcb]; exact hct
     go_region
     go_wp2
     ·rename_i hz
      have hz2 : List.count (ks[k]'hlt) s.data.toList ≠ 0 := by simpa using hz
      refine ⟨⟨k + 1, by omega, by simp, ?_, by rw [hsu, decide_eq_true (by omega)], hbw.drew⟩, by simp [intOf]; omega⟩
      rw [hsu]
      have e2 : Array.count (ks[k]'hlt) s.data = List.count (ks[k]'hlt) s.data.toList := by simp
      rw [e2]
      clear hcb hcb'
      generalize List.count (ks[k]'hlt) s.data.toList = C at *
      generalize cnts (ks.take k) s.data.toList = E at *
      rw [wrap64_small (x := (C : Int)) (by omega) (by omega), wrap64_small (by omega) (by omega)]
      congr 1; omega
    ·rename_i hz
     have hz2 : List.count (ks[k]'hlt) s.data.toList = 0 := by simpa [hcb] using hz
     rw [hz2] at hsu
     exact ⟨⟨k + 1, by omega, by simp, by simp [hsu], by simp [hsu], hbw⟩, by simp [intOf]; omega⟩
   ·have hke : k = ks.length := by omega
    subst hke
    rw [List.take_length, cnts_hits hnd hks]
    obtain ⟨w1, e1⟩ : ∃ w1, w1 = wr := ⟨_, rfl⟩
    subst e1
    generalize hN : s.size + hits f s.data.toList = N
    by_cases hz : hits f s.data.toList = 0
    ·have hzd : decide (hits f s.data.toList ≠ 0) = false := by simp [hz]
     rw [hzd]
     go_wp2
     go_ret
     refine ⟨?_, hbw⟩
     show Ending.returned (Value.string s) = _
     rw [rpl_none _ hz, hfin _ rfl]
    ·have hzd : decide (hits f s.data.toList ≠ 0) = true := by simp [hz]
     rw [hzd]
     have hmk := make_71 w1 N (by omega)
     have n1 := neq_nil
     have n2 := neq_row
     go_wp2
     go_loopw [13, 14] (fun j i w2 => ∃ k : Nat, k ≤ s.size ∧ i = .int .i64 k ∧ j = .int .i64 ((rpl f (s.data.toList.take k)).length : Nat) ∧ Fill w1.heap.size N (rpl f (s.data.toList.take k)) w1 w2) (fun _ i _ => s.size - (intOf i).toNat)
     case atStart => exact ⟨0, Nat.zero_le _, rfl, rfl, fill_new w1 N⟩
     case round =>
      obtain ⟨k, hk2, rfl, rfl, hF⟩ := hrel
      have hbf : Below w.heap.size w wr := hbw.trans (hF.below.mono hbw.size)
      by_cases hlt : k < s.size
      ·have hR : RepW B T ks f wr := h.row hbf hB (hT hk0) hD
       have h256 : (s[k]'hlt).toNat < 256 := UInt8.toNat_lt _
       have h256i : ((s[k]'hlt).toNat : Int) < 256 := by omega
       have hsu := rpl_succ f s k hlt
       have hsl : (rpl f (s.data.toList.take (k + 1))).length ≤ N := by
        rw [rpl_len hr, ← hN, List.length_take]
        have := hits_take f s.data.toList (k + 1)
        omega
       rw [hsu, List.length_append] at hsl
       generalize hO : rpl f (s.data.toList.take k) = O at hF hsu hsl
       cases hf : f (s[k]'hlt) with
       | none =>
        have hc := hR.non _ hf
        have hrp : rp f s[k] = [s[k]'hlt] := by unfold rp; rw [hf]
        rw [hrp] at hsu hsl
        have hsl2 : O.length < N := by simp at hsl; omega
        obtain ⟨u, hu⟩ := Option.isSome_iff_exists.1 (hF.has _ hsl2)
        have hfz := hF.fro _ hsl2
        have hF2 := hF.one (s[k]'hlt) hsl2
        go_wp2
        exact ⟨⟨k + 1, by omega, by simp, by rw [hsu]; simp, by rw [hsu]; exact hF2⟩, by simp [intOf]; omega⟩
       | some r =>
        obtain ⟨D, q, hc, hd⟩ := hR.yes _ _ hf
        have hr2 := hr _ _ hf
        have hrp : rp f s[k] = r.data.toList := by unfold rp; rw [hf]
        rw [hrp] at hsu hsl
        rw [hr2] at hc
        have hrl : r.data.toList.length = 2 := by rw [Array.length_toList]; exact hr2
        have hF2 := hF.drew.many r.data.toList (by omega)
        have hpos : 0 < N := by omega
        have hcp : ∀ (x : World), (∀ a, x.cell? a = wr.cell? a) → (∀ a, x.frozen? a = wr.frozen? a) → (Builtin.copy_ #[71, 71] 3 #[.slice (some ⟨w1.heap.size, O.length, none⟩) (N - O.length) (N - O.length), .slice (some ⟨D, 0, none⟩) 2 q]).run Tryz.prog x = .ok (goInt 2) (x.setCells w1.heap.size O.length (r.data.toList.map fun c => .int .u8 (c.toNat : Int))) := by
         intro x hx hx2
         have := run_copy_cells (P := Tryz.prog) x 71 71 3 5 w1.heap.size O.length (N - O.length) (N - O.length) ⟨D, 0, none⟩ 2 q (r.data.toList.map fun c => .int .u8 (c.toNat : Int)) (by kernel_rfl) (by kernel_rfl) (by rw [List.length_map, hrl]; exact (Nat.min_eq_left (by omega)).symm) ?_ ?_ ?_ ?_
         ·rw [List.length_map, hrl] at this; exact this
         ·intro j v hv
          have hj : j < r.size := by rw [hr2]; have := (List.getElem?_eq_some_iff.1 hv).1; rw [List.length_map, hrl] at this; exact this
          rw [hx, show (Addr.add ⟨D, 0, none⟩ j) = ⟨D, j, none⟩ by simp [Addr.add_lit], hd j hj]
          rw [List.getElem?_map, at_get r hj] at hv
          exact hv
         ·intro j hj; rw [hx]; rw [List.length_map, hrl] at hj; exact hF.has _ (by omega)
         ·intro j hj; rw [hx2]; rw [List.length_map, hrl] at hj; exact hF.fro _ (by omega)
         ·intro v hv; obtain ⟨c, _, rfl⟩ := List.mem_map.1 hv; rfl
        have hcd := hcp wr.drew (fun _ => rfl) (fun _ => rfl)
        clear hcp
        go_wp2
        go_region
        go_wp2
        exact ⟨⟨k + 1, by omega, by simp, by rw [hsu, List.length_append, hrl]; simp, by rw [hsu]; exact hF2⟩, by simp [intOf]; omega⟩
      ·have hke : k = s.size := by omega
       subst hke
       have hall : s.data.toList.take s.size = s.data.toList := by rw [show s.size = s.data.toList.length by rw [Array.length_toList]; rfl, List.take_length]
       rw [hall] at hF
       have hNl : (rpl f s.data.toList).length = N := by rw [rpl_len hr, ← hN, Array.length_toList]; rfl
       have hcv : (convert 71 9 (.slice (some ⟨w1.heap.size, 0, none⟩) N N)).run Tryz.prog wr = .ok (.string ⟨(rpl f s.data.toList).toArray⟩) wr := by
        rw [← hNl]
        exact run_convert_bytes_back wr 71 9 5 ⟨w1.heap.size, 0, none⟩ _ (rpl f s.data.toList) (by kernel_rfl) (by kernel_rfl) (by kernel_rfl) (fun j hj => by rw [show (Addr.add ⟨w1.heap.size, 0, none⟩ j) = ⟨w1.heap.size, j, none⟩ by simp [Addr.add_lit]]; exact hF.out j hj)
       go_wp2
       go_ret
       exact ⟨rfl, hbf⟩
 ·have n1 := neq_nil
  have n2 := neq_row
  have hdec : decide ((ks.length : Int) * 8 ≤ (s.size : Int)) = false := decide_eq_false hcond
  go_enter Tryz.func264, Tryz.ntmps264
  go_wp2
  go_loopw [5, 6, 10] (fun n ch i wr => ∃ k : Nat, k ≤ s.size ∧ i = .int .i64 k ∧ n = .int .i64 (s.size + hits f (s.data.toList.take k) : Nat) ∧ ch = .bool (decide (hits f (s.data.toList.take k) ≠ 0)) ∧ w = wr) (fun _ _ i _ => s.size - (intOf i).toNat)
  case atStart => exact ⟨0, Nat.zero_le _, rfl, by simp [hits], by simp [hits], rfl⟩
  case round =>
   obtain ⟨k, hk', rfl, rfl, rfl, rfl⟩ := hrel
   by_cases hlt : k < s.size
   ·have hsu := hits_succ f s k hlt
    have hle : hits f (s.data.toList.take k) ≤ k := by have := hits_le f (s.data.toList.take k); rw [List.length_take] at this; omega
    have h256 : (s[k]'hlt).toNat < 256 := UInt8.toNat_lt _
    have h256i : ((s[k]'hlt).toNat : Int) < 256 := by omega
    cases hf : f (s[k]'hlt) with
    | none =>
     have hc := h.non _ hf
     rw [hf] at hsu
     simp only [Option.isSome_none, Bool.false_eq_true, if_false, Nat.add_zero] at hsu
     go_wp2
     exact ⟨⟨k + 1, by omega, by simp, by simp [hsu], by simp [hsu], trivial⟩, by simp [intOf]; omega⟩
    | some r =>
     obtain ⟨D, q, hc, _⟩ := h.yes _ _ hf
     have hr2 := hr _ _ hf
     rw [hr2] at hc
     rw [hf] at hsu
     simp only [Option.isSome_some, if_true] at hsu
     go_wp2
     exact ⟨⟨k + 1, by omega, by simp, by simp [hsu]; omega, by simp [hsu], trivial⟩, by simp [intOf]; omega⟩
   ·have hke : k = s.size := by omega
    subst hke
    have hall : s.data.toList.take s.size = s.data.toList := by rw [show s.size = s.data.toList.length by rw [Array.length_toList]; rfl, List.take_length]
    rw [hall]
    obtain ⟨w1, e1⟩ : ∃ w1, w1 = w := ⟨_, rfl⟩
    subst e1
    generalize hN : s.size + hits f s.data.toList = N
    by_cases hz : hits f s.data.toList = 0
    ·have hzd : decide (hits f s.data.toList ≠ 0) = false := by simp [hz]
     rw [hzd]
     go_wp2
     go_ret
     refine ⟨?_, Below.refl _ _⟩
     show Ending.returned (Value.string s) = _
     rw [rpl_none _ hz, hfin _ rfl]
    ·have hzd : decide (hits f s.data.toList ≠ 0) = true := by simp [hz]
     rw [hzd]
     have hmk := make_71 w1 N (by omega)
     have n1 := neq_nil
     have n2 := neq_row
     go_wp2
     go_loopw [13, 14] (fun j i w2 => ∃ k : Nat, k ≤ s.size ∧ i = .int .i64 k ∧ j = .int .i64 ((rpl f (s.data.toList.take k)).length : Nat) ∧ Fill w1.heap.size N (rpl f (s.data.toList.take k)) w1 w2) (fun _ i _ => s.size - (intOf i).toNat)
     case atStart => exact ⟨0, Nat.zero_le _, rfl, rfl, fill_new w1 N⟩
     case round =>
      obtain ⟨k, hk2, rfl, rfl, hF⟩ := hrel
      have hbf : Below w1.heap.size w1 wr := hF.below
      by_cases hlt : k < s.size
      ·have hR : RepW B T ks f wr := h.row hbf hB (hT hk0) hD
       have h256 : (s[k]'hlt).toNat < 256 := UInt8.toNat_lt _
       have h256i : ((s[k]'hlt).toNat : Int) < 256 := by omega
       have hsu := rpl_succ f s k hlt
       have hsl : (rpl f (s.data.toList.take (k + 1))).length ≤ N := by
        rw [rpl_len hr, ← hN, List.length_take]
        have := hits_take f s.data.toList (k + 1)
        omega
       rw [hsu, List.length_append] at hsl
       generalize hO : rpl f (s.data.toList.take k) = O at hF hsu hsl
       cases hf : f (s[k]'hlt) with
       | none =>
        have hc := hR.non _ hf
        have hrp : rp f s[k] = [s[k]'hlt] := by unfold rp; rw [hf]
        rw [hrp] at hsu hsl
        have hsl2 : O.length < N := by simp at hsl; omega
        obtain ⟨u, hu⟩ := Option.isSome_iff_exists.1 (hF.has _ hsl2)
        have hfz := hF.fro _ hsl2
        have hF2 := hF.one (s[k]'hlt) hsl2
        go_wp2
        exact ⟨⟨k + 1, by omega, by simp, by rw [hsu]; simp, by rw [hsu]; exact hF2⟩, by simp [intOf]; omega⟩
       | some r =>
        obtain ⟨D, q, hc, hd⟩ := hR.yes _ _ hf
        have hr2 := hr _ _ hf
        have hrp : rp f s[k] = r.data.toList := by unfold rp; rw [hf]
        rw [hrp] at hsu hsl
        rw [hr2] at hc
        have hrl : r.data.toList.length = 2 := by rw [Array.length_toList]; exact hr2
        have hF2 := hF.drew.many r.data.toList (by omega)
        have hpos : 0 < N := by omega
        have hcp : ∀ (x : World), (∀ a, x.cell? a = wr.cell? a) → (∀ a, x.frozen? a = wr.frozen? a) → (Builtin.copy_ #[71, 71] 3 #[.slice (some ⟨w1.heap.size, O.length, none⟩) (N - O.length) (N - O.length), .slice (some ⟨D, 0, none⟩) 2 q]).run Tryz.prog x = .ok (goInt 2) (x.setCells w1.heap.size O.length (r.data.toList.map fun c => .int .u8 (c.toNat : Int))) := by
         intro x hx hx2
         have := run_copy_cells (P := Tryz.prog) x 71 71 3 5 w1.heap.size O.length (N - O.length) (N - O.length) ⟨D, 0, none⟩ 2 q (r.data.toList.map fun c => .int .u8 (c.toNat : Int)) (by kernel_rfl) (by kernel_rfl) (by rw [List.length_map, hrl]; exact (Nat.min_eq_left (by omega)).symm) ?_ ?_ ?_ ?_
         ·rw [List.length_map, hrl] at this; exact this
         ·intro j v hv
          have hj : j < r.size := by rw [hr2]; have := (List.getElem?_eq_some_iff.1 hv).1; rw [List.length_map, hrl] at this; exact this
          rw [hx, show (Addr.add ⟨D, 0, none⟩ j) = ⟨D, j, none⟩ by simp [Addr.add_lit], hd j hj]
          rw [List.getElem?_map, at_get r hj] at hv
          exact hv
         ·intro j hj; rw [hx]; rw [List.length_map, hrl] at hj; exact hF.has _ (by omega)
         ·intro j hj; rw [hx2]; rw [List.length_map, hrl] at hj; exact hF.fro _ (by omega)
         ·intro v hv; obtain ⟨c, _, rfl⟩ := List.mem_map.1 hv; rfl
        have hcd := hcp wr.drew (fun _ => rfl) (fun _ => rfl)
        clear hcp
        go_wp2
        go_region
        go_wp2
        exact ⟨⟨k + 1, by omega, by simp, by rw [hsu, List.length_append, hrl]; simp, by rw [hsu]; exact hF2⟩, by simp [intOf]; omega⟩
      ·have hke : k = s.size := by omega
       subst hke
       have hall : s.data.toList.take s.size = s.data.toList := by rw [show s.size = s.data.toList.length by rw [Array.length_toList]; rfl, List.take_length]
       rw [hall] at hF
       have hNl : (rpl f s.data.toList).length = N := by rw [rpl_len hr, ← hN, Array.length_toList]; rfl
       have hcv : (convert 71 9 (.slice (some ⟨w1.heap.size, 0, none⟩) N N)).run Tryz.prog wr = .ok (.string ⟨(rpl f s.data.toList).toArray⟩) wr := by
        rw [← hNl]
        exact run_convert_bytes_back wr 71 9 5 ⟨w1.heap.size, 0, none⟩ _ (rpl f s.data.toList) (by kernel_rfl) (by kernel_rfl) (by kernel_rfl) (fun j hj => by rw [show (Addr.add ⟨w1.heap.size, 0, none⟩ j) = ⟨w1.heap.size, j, none⟩ by simp [Addr.add_lit]]; exact hF.out j hj)
       go_wp2
       go_ret
       exact ⟨rfl, hbf⟩

theorem RepW.set {B T : Nat} {ks : List UInt8} {f : UInt8 → Option ByteArray} {w : World} (h : RepW B T ks f w) (a : Addr) (v : Value) (hB : B ≠ a.block) (hT : T ≠ a.block) (hr : ∀ c r, f c = some r → r.size = 2)
  (h0 : ∀ n : Int, w.cell? ⟨a.block, 0, none⟩ ≠ some (.int .u8 n)) : RepW B T ks f (w.setCell a v) := by
 have o : ∀ (b i : Nat), b ≠ a.block → (w.setCell a v).cell? ⟨b, i, none⟩ = w.cell? ⟨b, i, none⟩ := fun b i hb => World.cell?_setCell_other _ _ _ _ (fun e => hb (by rw [e]))
 refine ⟨(o _ _ hB).trans h.tot, fun j k hj => (o _ _ hT).trans (h.key j k hj), fun c hc => (o _ _ hB).trans (h.non c hc), fun c s hs => ?_⟩
 obtain ⟨D, q, h1, h2⟩ := h.yes c s hs
 have hD : D ≠ a.block := fun e => by
  subst e
  exact h0 _ (h2 0 (by rw [hr c s hs]; omega))
 exact ⟨D, q, (o _ _ hB).trans h1, fun j hj => (o _ _ hD).trans (h2 j hj)⟩

theorem do_rep (R : Nat) (ks : List UInt8) (f : UInt8 → Option ByteArray) (v3 v4 : Value) (w : World) (hR : R < w.heap.size)
  (c0 : w.cell? ⟨R, 0, none⟩ = some (.int .u32 0)) (c1 : w.cell? ⟨R, 1, none⟩ = some (.int .i32 0)) (c3 : w.cell? ⟨R, 3, none⟩ = some v3) (c4 : w.cell? ⟨R, 4, none⟩ = some v4)
  (z : ∀ i, w.frozen? ⟨R, i, none⟩ = false) (hr : ∀ c r, f c = some r → r.size = 2)
  (hb : Calls Tryz.prog 124 #[.pointer (some ⟨R, 0, none⟩)] (w.setCell ⟨R, 1, none⟩ (.int .i32 1)) fun e w1 => e = .returned (.iface 237 (.pointer (some ⟨w.heap.size + 1, 0, none⟩))) ∧ RepW (w.heap.size + 1) w.heap.size ks f w1 ∧ Below w.heap.size (w.setCell ⟨R, 1, none⟩ (.int .i32 1)) w1) :
  Calls Tryz.prog 78 #[.pointer (some ⟨R, 0, none⟩), .func (.func 79) #[.pointer (some ⟨R, 0, none⟩)] #[]] w fun e w5 => e = .returned (.tuple #[]) ∧
   RepW (w.heap.size + 1) w.heap.size ks f w5 ∧ w5.cell? ⟨R, 3, none⟩ = some (.iface 237 (.pointer (some ⟨w.heap.size + 1, 0, none⟩))) ∧ Below R w w5 ∧ R < w5.heap.size := by
 have hsz : (w.setCell ⟨R, 1, none⟩ (.int .i32 1)).heap.size = w.heap.size := by simp [World.setCell]
 have ho := once_gen R (w.heap.size + 1) (fun w1 => RepW (w.heap.size + 1) w.heap.size ks f w1) (w.setCell ⟨R, 1, none⟩ (.int .i32 1)) v3 v4 (by rw [hsz]; exact hR)
  ((World.cell?_setCell_other _ ⟨R, 1, none⟩ ⟨R, 3, none⟩ _ (by simp)).trans c3) ((World.cell?_setCell_other _ ⟨R, 1, none⟩ ⟨R, 4, none⟩ _ (by simp)).trans c4)
  (by rw [World.frozen?_setCell]; exact z 3) (by rw [World.frozen?_setCell]; exact z 4) (by rw [hsz]; exact hb)
 refine (do_gen R _ w c0 c1 (z 0) (z 1) ho ?_).mono ?_
 ·rintro w2 ⟨w1, _, hw, rfl⟩
  rw [hsz] at hw
  have e0 : w1.cell? ⟨R, 0, none⟩ = some (.int .u32 0) := (hw.cell hR).trans ((World.cell?_setCell_other _ ⟨R, 1, none⟩ ⟨R, 0, none⟩ _ (by simp)).trans c0)
  have e1 : w1.cell? ⟨R, 1, none⟩ = some (.int .i32 1) := (hw.cell hR).trans (World.cell?_setCell_same _ _ _ c1)
  have ef : ∀ i, w1.frozen? ⟨R, i, none⟩ = false := fun i => (hw.frozen hR).trans (by rw [World.frozen?_setCell]; exact z i)
  refine ⟨?_, ?_, ?_, ?_⟩
  ·rw [World.cell?_setCell_other _ _ _ _ (by simp), World.cell?_setCell_other _ _ _ _ (by simp)]; exact e0
  ·rw [World.cell?_setCell_other _ _ _ _ (by simp), World.cell?_setCell_other _ _ _ _ (by simp)]; exact e1
  ·rw [World.frozen?_setCell, World.frozen?_setCell]; exact ef 0
  ·rw [World.frozen?_setCell, World.frozen?_setCell]; exact ef 1
 rintro e w' ⟨rfl, w2, ⟨w1, hw1, hbw, rfl⟩, rfl⟩
 rw [hsz] at hbw
 have hne : w.heap.size ≠ R := by omega
 have hne1 : w.heap.size + 1 ≠ R := by omega
 have e0 : w1.cell? ⟨R, 0, none⟩ = some (.int .u32 0) := (hbw.cell hR).trans ((World.cell?_setCell_other _ ⟨R, 1, none⟩ ⟨R, 0, none⟩ _ (by simp)).trans c0)
 have e3 : w1.cell? ⟨R, 3, none⟩ = some v3 := (hbw.cell hR).trans ((World.cell?_setCell_other _ ⟨R, 1, none⟩ ⟨R, 3, none⟩ _ (by simp)).trans c3)
 have s1 : Below R w w1 := ((Below.refl R w).setCell (p := ⟨R, 1, none⟩) (Nat.le_refl _) _).trans (hbw.mono (by omega))
 generalize hA : w1.setCell ⟨R, 3, none⟩ (.iface 237 (.pointer (some ⟨w.heap.size + 1, 0, none⟩))) = wA
 have a0 : wA.cell? ⟨R, 0, none⟩ = some (.int .u32 0) := by rw [← hA, World.cell?_setCell_other _ _ _ _ (by simp)]; exact e0
 have a3 : wA.cell? ⟨R, 3, none⟩ = some (.iface 237 (.pointer (some ⟨w.heap.size + 1, 0, none⟩))) := by rw [← hA]; exact World.cell?_setCell_same _ _ _ e3
 have hXA : RepW (w.heap.size + 1) w.heap.size ks f wA := by rw [← hA]; exact hw1.set ⟨R, 3, none⟩ _ hne1 hne hr (fun n => by rw [e0]; simp)
 have sA : Below R w wA := by rw [← hA]; exact s1.setCell (Nat.le_refl _) _
 clear hA
 generalize hB : wA.setCell ⟨R, 4, none⟩ (.slice none 0 0) = wB
 have b0 : wB.cell? ⟨R, 0, none⟩ = some (.int .u32 0) := by rw [← hB, World.cell?_setCell_other _ _ _ _ (by simp)]; exact a0
 have b3 : wB.cell? ⟨R, 3, none⟩ = some (.iface 237 (.pointer (some ⟨w.heap.size + 1, 0, none⟩))) := by rw [← hB, World.cell?_setCell_other _ _ _ _ (by simp)]; exact a3
 have hXB : RepW (w.heap.size + 1) w.heap.size ks f wB := by rw [← hB]; exact hXA.set ⟨R, 4, none⟩ _ hne1 hne hr (fun n => by rw [a0]; simp)
 have sB : Below R w wB := by rw [← hB]; exact sA.setCell (Nat.le_refl _) _
 clear hB
 have hXD : RepW (w.heap.size + 1) w.heap.size ks f wB.drew := ⟨hXB.tot, hXB.key, hXB.non, hXB.yes⟩
 have d0 : wB.drew.cell? ⟨R, 0, none⟩ = some (.int .u32 0) := b0
 have d3 : wB.drew.cell? ⟨R, 3, none⟩ = some (.iface 237 (.pointer (some ⟨w.heap.size + 1, 0, none⟩))) := b3
 have sD := sB.drew
 generalize wB.drew = wD at hXD d0 d3 sD
 generalize hE : wD.setCell ⟨R, 0, none⟩ (.int .u32 1) = wE
 have f0 : wE.cell? ⟨R, 0, none⟩ = some (.int .u32 1) := by rw [← hE]; exact World.cell?_setCell_same _ _ _ d0
 have f3 : wE.cell? ⟨R, 3, none⟩ = some (.iface 237 (.pointer (some ⟨w.heap.size + 1, 0, none⟩))) := by rw [← hE, World.cell?_setCell_other _ _ _ _ (by simp)]; exact d3
 have hXE : RepW (w.heap.size + 1) w.heap.size ks f wE := by rw [← hE]; exact hXD.set ⟨R, 0, none⟩ _ hne1 hne hr (fun n => by rw [d0]; simp)
 have sE : Below R w wE := by rw [← hE]; exact sD.setCell (Nat.le_refl _) _
 have sF := sE.setCell (p := ⟨R, 1, none⟩) (Nat.le_refl _) (.int .i32 0)
 refine ⟨rfl, hXE.set ⟨R, 1, none⟩ _ hne1 hne hr (fun n => by rw [f0]; simp), ?_, sF, Nat.lt_of_lt_of_le hR sF.size⟩
 rw [World.cell?_setCell_other _ _ _ _ (by simp)]
 exact f3

set_option maxRecDepth 100000 in
set_option maxHeartbeats 3200000 in
theorem replace_gen (R B T : Nat) (ks : List UInt8) (f : UInt8 → Option ByteArray) (s : ByteArray) (w : World)
  (hd : Calls Tryz.prog 78 #[.pointer (some ⟨R, 0, none⟩), .func (.func 79) #[.pointer (some ⟨R, 0, none⟩)] #[]] w fun e w5 => e = .returned (.tuple #[]) ∧
   RepW B T ks f w5 ∧ w5.cell? ⟨R, 3, none⟩ = some (.iface 237 (.pointer (some ⟨B, 0, none⟩))) ∧ Below R w w5 ∧ R < w5.heap.size)
  (hm : ∀ w5, RepW B T ks f w5 → Calls Tryz.prog 264 #[.pointer (some ⟨B, 0, none⟩), .string s] w5 fun e w' => e = .returned (.string ⟨(rpl f s.data.toList).toArray⟩) ∧ Below w5.heap.size w5 w') :
  Calls Tryz.prog 39 #[.pointer (some ⟨R, 0, none⟩), .string s] w fun e w' => e = .returned (.string ⟨(rpl f s.data.toList).toArray⟩) ∧ Below R w w' := by
 go_enter Tryz.func39, Tryz.ntmps39
 go_wp2_with (go_at_call 78; refine hd.mono ?_)
 rintro e w5 ⟨rfl, hX5, l3, hfin, hlt⟩
 have hm5 := hm _ hX5
 clear hm hX5
 go_wp2_with (go_at_call 264; refine hm5.mono ?_)
 rintro e w6 ⟨rfl, hb6⟩
 go_wp2
 go_ret
 exact ⟨rfl, hfin.trans (hb6.mono (by omega))⟩
end Go.Proofs.YtknnooannohflaaGreatDoor.Rp
