import Derived.Test.YtknnooannohflaaGreatDoorPrJ
import Derived.Recover
import Derived.Defers
namespace Go.Proofs.YtknnooannohflaaGreatDoor.Prs
open Go Go.Proofs Go.RowKit Go.Px Trm Exp Met
set_option maxHeartbeats 1000000
set_option maxRecDepth 100000
set_option linter.unusedVariables false
theorem catch_no (p q : Addr) (w : World) :
  CallsD Tryz.prog 115 #[.pointer (some p), .pointer (some q)] .returning w fun e u' w' => e = .returned (.tuple #[]) ∧ u' = .returning ∧ w' = w := by
 refine callsD_of_wpS Tryz.func115 rfl fun c₀ cs hu => ?_
 apply wpS_seq
 apply wpS_region
 simp [wpOpsS, go_sem, recoverD, hu, Tryz.ntmps115, Exit.thenS]
 apply wpS_seq
 apply wpS_seq
 apply wpS_region
 simp [wpOpsS, go_sem, Exit.thenS]
 refine wpS_cond (t := true) (by simp [Act.eval, Array.replicate]) ?_
 simp only [if_true]
 refine wpS_of_wp (wp_ret ?_)
 cases c₀
 simp_all [bodyPostS, results, Tryz.results115, Exit.thenS]
theorem catch_brk (B l c : Nat) (n : Int) (older : List PanicEntry) (w : World) (a : Array Value) (x : Value) (hl : w.heap[l]? = some (.cells a 117 (0, 0))) (hal : a.size = 7) (hc : w.heap[c]? = some (.cells #[x] 3 (0, 0))) (hBl : B ≤ l) (hBc : B ≤ c) (hlc : l ≠ c) :
  CallsD Tryz.prog 115 #[.pointer (some ⟨l, 0, none⟩), .pointer (some ⟨c, 0, none⟩)] (.panicking ({ v := .iface 170 (.agg #[.int .i64 n]), recovered := false } :: older)) w fun e u' w' =>
   e = .returned (.tuple #[]) ∧ u' = .panicking ({ v := .iface 170 (.agg #[.int .i64 n]), recovered := true } :: older) ∧ Below B w w' ∧ w'.heap[l]? = some (.cells zer7 117 (0, 0)) ∧ w'.heap[c]? = some (.cells #[.int .i64 n] 3 (0, 0)) := by
 refine callsD_of_wpS Tryz.func115 rfl fun c₀ cs hu => ?_
 apply wpS_seq
 apply wpS_region
 simp [wpOpsS, go_sem, recoverD, hu, Tryz.ntmps115, Exit.thenS]
 refine wpS_of_wp ?_
 rw [show (#[Value.pointer (some ⟨l, 0, none⟩), Value.pointer (some ⟨c, 0, none⟩)] ++ ((Array.replicate 17 undef).setIfInBounds 3 (Value.iface 170 (Value.agg #[Value.int IntKind.i64 n]))).setIfInBounds 0 (Value.iface 170 (Value.agg #[Value.int IntKind.i64 n]))) = (#[.pointer (some ⟨l, 0, none⟩), .pointer (some ⟨c, 0, none⟩), (.iface 170 (.agg #[.int .i64 n])), undef, undef, (.iface 170 (.agg #[.int .i64 n])), undef, undef, undef, undef, undef, undef, undef, undef, undef, undef, undef, undef, undef] : Array Value) from rfl]
 have hta : ∀ w : World, (Instr.typeAssert (Value.iface 170 (Value.agg #[Value.int IntKind.i64 n])) 20 170 true).run Tryz.prog w = .ok (.tuple #[.agg #[.int .i64 n], .bool true]) w := fun _ => by kernel_rfl
 go_wp2
 have hlw : l < w.heap.size := (Array.getElem?_eq_some_iff.1 hl).1
 have hcw : c < w.heap.size := (Array.getElem?_eq_some_iff.1 hc).1
 have b2 : Below w.heap.size w (w.alloc (.cells #[.int .i64 n] 170)) := (Below.refl _ _).alloc (Nat.le_refl _) _
 have N0 := cell_row (heap_alloc_new w (.cells #[.int .i64 n] 170)) 0
 have NF : (w.alloc (.cells #[.int .i64 n] 170)).frozen? ⟨w.heap.size, 0, none⟩ = false := by
  unfold World.frozen?
  rw [show (w.alloc (.cells #[.int .i64 n] 170)).heap[(⟨w.heap.size, 0, none⟩ : Addr).block]? = some (.cells #[.int .i64 n] 170 (0, 0)) from heap_alloc_new _ _]
  rfl
 have hl2 := (b2.block _ hlw).trans hl
 have hc2 := (b2.block _ hcw).trans hc
 have hne1 : w.heap.size ≠ l := by omega
 have hne2 : w.heap.size ≠ c := by omega
 generalize w.alloc (.cells #[.int .i64 n] 170) = w2 at *
 generalize w.heap.size = K at *
 obtain ⟨a0, a1, a2, a3, a4, a5, a6, rfl⟩ : ∃ a0 a1 a2 a3 a4 a5 a6, a = #[a0, a1, a2, a3, a4, a5, a6] := by
  rcases a with ⟨al⟩
  match al, hal with
  | [a0, a1, a2, a3, a4, a5, a6], _ => exact ⟨a0, a1, a2, a3, a4, a5, a6, rfl⟩
 have Lc := fun i => cell_row hl2 i
 have C0 := cell_row hc2 0
 have LF : ∀ i, w2.frozen? ⟨l, i, none⟩ = false := fun i => by simp [World.frozen?, hl2]
 have CF : w2.frozen? ⟨c, 0, none⟩ = false := by simp [World.frozen?, hc2]
 have L0 := Lc 0
 have LF0 := LF 0
 have L1 := Lc 1
 have LF1 := LF 1
 have L2 := Lc 2
 have LF2 := LF 2
 have L3 := Lc 3
 have LF3 := LF 3
 have L4 := Lc 4
 have LF4 := LF 4
 have L5 := Lc 5
 have LF5 := LF 5
 have L6 := Lc 6
 have LF6 := LF 6
 simp only [List.getElem?_toArray, List.getElem?_cons_succ, List.getElem?_cons_zero] at C0 N0 L0 L1 L2 L3 L4 L5 L6
 clear Lc LF
 go_region
 all_goals go_wp2
 have g0 := b2.mono (B' := B) (by omega)
 have q1 := heap_set7 hl2 0 (.int .i64 0)
 have r1 := (Below.heap_setCell w2 ⟨l, 0, none⟩ (.int .i64 0) c (Ne.symm hlc)).trans hc2
 have g1 := Below.setCell g0 (p := ⟨l, 0, none⟩) hBl (.int .i64 0)
 generalize w2.setCell ⟨l, 0, none⟩ (.int .i64 0) = w3 at *
 have q2 := heap_set7 q1 1 (.string ⟨#[]⟩)
 have r2 := (Below.heap_setCell w3 ⟨l, 1, none⟩ (.string ⟨#[]⟩) c (Ne.symm hlc)).trans r1
 have g2 := Below.setCell g1 (p := ⟨l, 1, none⟩) hBl (.string ⟨#[]⟩)
 generalize w3.setCell ⟨l, 1, none⟩ (.string ⟨#[]⟩) = w4 at *
 have q3 := heap_set7 q2 2 (.string ⟨#[]⟩)
 have r3 := (Below.heap_setCell w4 ⟨l, 2, none⟩ (.string ⟨#[]⟩) c (Ne.symm hlc)).trans r2
 have g3 := Below.setCell g2 (p := ⟨l, 2, none⟩) hBl (.string ⟨#[]⟩)
 generalize w4.setCell ⟨l, 2, none⟩ (.string ⟨#[]⟩) = w5 at *
 have q4 := heap_set7 q3 3 (.int .i64 0)
 have r4 := (Below.heap_setCell w5 ⟨l, 3, none⟩ (.int .i64 0) c (Ne.symm hlc)).trans r3
 have g4 := Below.setCell g3 (p := ⟨l, 3, none⟩) hBl (.int .i64 0)
 generalize w5.setCell ⟨l, 3, none⟩ (.int .i64 0) = w6 at *
 have q5 := heap_set7 q4 4 (.string ⟨#[]⟩)
 have r5 := (Below.heap_setCell w6 ⟨l, 4, none⟩ (.string ⟨#[]⟩) c (Ne.symm hlc)).trans r4
 have g5 := Below.setCell g4 (p := ⟨l, 4, none⟩) hBl (.string ⟨#[]⟩)
 generalize w6.setCell ⟨l, 4, none⟩ (.string ⟨#[]⟩) = w7 at *
 have q6 := heap_set7 q5 5 (.slice none 0 0)
 have r6 := (Below.heap_setCell w7 ⟨l, 5, none⟩ (.slice none 0 0) c (Ne.symm hlc)).trans r5
 have g6 := Below.setCell g5 (p := ⟨l, 5, none⟩) hBl (.slice none 0 0)
 generalize w7.setCell ⟨l, 5, none⟩ (.slice none 0 0) = w8 at *
 have q7 := heap_set7 q6 6 (.int .i64 0)
 have r7 := (Below.heap_setCell w8 ⟨l, 6, none⟩ (.int .i64 0) c (Ne.symm hlc)).trans r6
 have g7 := Below.setCell g6 (p := ⟨l, 6, none⟩) hBl (.int .i64 0)
 generalize w8.setCell ⟨l, 6, none⟩ (.int .i64 0) = w9 at *
 have q8 := (Below.heap_setCell w9 ⟨c, 0, none⟩ (.int .i64 n) l hlc).trans q7
 have r8 := heap_set7 r7 0 (.int .i64 n)
 have g8 := Below.setCell g7 (p := ⟨c, 0, none⟩) hBc (.int .i64 n)
 generalize w9.setCell ⟨c, 0, none⟩ (.int .i64 n) = w10 at *
 simp only [List.setIfInBounds_toArray, List.set_cons_succ, List.set_cons_zero] at q8 r8
 unfold bodyPostS
 simp only
 refine ⟨trivial, _, rfl, .tuple #[], by simp [results, Tryz.results115], ?_⟩
 exact ⟨rfl, rfl, g8.drew, q8, r8⟩
abbrev lnV (l : LnD) (v : Value) : Value := .agg #[.int .i64 l.kd, .string l.nm, .string l.hp, .int .i64 l.of, .string l.sm.nm, v, .int .i64 l.sm.v]
def RdOut (s : ByteArray) (ended : Bool) (w : World) (e : Ending) (w' : World) : Prop := Below w.heap.size w w' ∧ match pRead s.data.toList ended with
 | .ok l => ∃ v, e = .returned (.tuple #[lnV l v, .int .i64 0]) ∧ w'.ownsRow w.heap.size 68 2 v l.sm.ls.length (labCells l.sm.ls)
 | .error b => e = .returned (.tuple #[.agg zer7, .int .i64 ((b : Int) + 1)])
theorem own_drew {w : World} {base : Nat} {e : TypeId} {size : Nat} {v : Value} {n : Nat} {xs : List Value} (h : w.ownsRow base e size v n xs) : w.drew.ownsRow base e size v n xs := h
theorem curK {C K : Nat} {s : ByteArray} {a : Nat} {w w' : World} (h : Cur C s a w) (k : Kept K w w') (hne : C ≠ K) : Cur C s a w' := by
 have hC : C < w.heap.size := World.block_lt_of_cell? w _ h.txt
 exact ⟨(k.cell (p := ⟨C, 0, none⟩) hC hne).trans h.txt, (k.cell (p := ⟨C, 1, none⟩) hC hne).trans h.at_, fun i => (k.fz (p := ⟨C, i, none⟩) hC hne).trans (h.fz i), h.le, h.sm⟩
theorem read_walk (s : ByteArray) (ended : Bool) (w : World) (hsm : s.size ≤ 200000000) :
  Calls Tryz.prog 75 #[.string s, .bool ended] w (RdOut s ended w) := by
 have hmf : ∀ (fn : Fn) (first cap : Array Value) (w : World), (Instr.makeFunc fn first cap).run Tryz.prog w = .ok (.func fn first cap) w := fun _ _ _ _ => rfl
 go_enter_defers Tryz.func75, Tryz.ntmps75
 go_wp2_with (go_at_call 116; fail)
 generalize hw3 : ((w.alloc (.cells zer7 117)).alloc (.cells #[.int .i64 0] 3)).alloc (.cells #[.string s, .int .i64 0] 174) = w3
 have hB : Below w.heap.size w w3 := by rw [← hw3]; exact (((Below.refl _ _).alloc (Nat.le_refl _) _).alloc (by simp) _).alloc (by simp; omega) _
 have h4 : w3.heap[w.heap.size]? = some (.cells zer7 117 (0, 0)) := by
  rw [← hw3]
  rw [Below.heap_alloc _ _ _ (by simp; omega), Below.heap_alloc _ _ _ (by simp)]
  exact heap_alloc_new _ _
 have h5 : w3.heap[w.heap.size + 1]? = some (.cells #[.int .i64 0] 3 (0, 0)) := by
  rw [← hw3]
  rw [Below.heap_alloc _ _ _ (by simp)]
  have := heap_alloc_new (w.alloc (.cells zer7 117)) (.cells #[.int .i64 0] 3)
  simpa using this
 have h6 : w3.heap[w.heap.size + 1 + 1]? = some (.cells #[.string s, .int .i64 0] 174 (0, 0)) := by
  rw [← hw3]
  have := heap_alloc_new ((w.alloc (.cells zer7 117)).alloc (.cells #[.int .i64 0] 3)) (.cells #[.string s, .int .i64 0] 174)
  simpa using this
 have hC : Cur (w.heap.size + 1 + 1) s 0 w3 := by
  have c0 := cell_row h6 0
  have c1 := cell_row h6 1
  simp only [List.getElem?_toArray, List.getElem?_cons_succ, List.getElem?_cons_zero] at c0 c1
  exact ⟨c0, c1, fun i => by simp [World.frozen?, h6], Nat.zero_le _, hsm⟩
 have s3 : w.heap.size + 1 + 1 < w3.heap.size := (Array.getElem?_eq_some_iff.1 h6).1
 clear hw3 h6
 have hW := line_walk (w.heap.size + 1 + 1) s w3 hC
 cases r1 : pLine s.data.toList with
 | error b =>
  have Hy : Hid (pRead s.data.toList ended = .error b) := by show _ = _; unfold pRead; rw [r1]
  rw [r1] at hW
  clear r1
  refine hW.mono ?_
  rintro e w4 ⟨k4, rfl⟩
  have h4 := (k4.block _ (by omega) (by omega)).trans h4
  have h5 := (k4.block _ (by omega) (by omega)).trans h5
  have K4 := hB.trans ((k4.below (by omega)).mono (by omega))
  refine leaves_cons (f := 115) (args := #[.pointer (some ⟨w.heap.size, 0, none⟩), .pointer (some ⟨w.heap.size + 1, 0, none⟩)]) (by simp) (by simp [go_sem]) ?_
  refine (catch_brk w.heap.size w.heap.size (w.heap.size + 1) ((b : Int) + 1) [] _ _ _ h4 rfl h5 (Nat.le_refl _) (by omega) (by omega)).mono ?_
  rintro e u' w9 ⟨rfl, rfl, g1, g2, g3⟩
  have Zc := fun i => cell_row g2 i
  have Z0 := Zc 0
  have Z1 := Zc 1
  have Z2 := Zc 2
  have Z3 := Zc 3
  have Z4 := Zc 4
  have Z5 := Zc 5
  have Z6 := Zc 6
  have Z7 := cell_row g3 0
  simp only [zer7, List.getElem?_toArray, List.getElem?_cons_succ, List.getElem?_cons_zero] at Z0 Z1 Z2 Z3 Z4 Z5 Z6 Z7
  clear Zc
  simp [Leaves, settle, results, Tryz.results75, loadVar, Z0, Z1, Z2, Z3, Z4, Z5, Z6, Z7, go_sem]
  refine ⟨K4.trans g1, ?_⟩
  rw [Hy.out]
 | ok q =>
  obtain ⟨l, b⟩ := q
  have Hq : Hid (pRead s.data.toList ended = if b < s.data.toList.length ∨ ended = false then .error b else .ok l) := by show _ = _; unfold pRead; rw [r1]
  rw [r1] at hW
  clear r1
  refine hW.mono ?_
  rintro e w4 ⟨k4, ⟨VV, rfl, v4, rfl, o4⟩, c4⟩
  obtain ⟨p4, n4, cp4, rfl⟩ := own_slice o4
  have h4 := (k4.block _ (by omega) (by omega)).trans h4
  have h5 := (k4.block _ (by omega) (by omega)).trans h5
  have K4 := hB.trans ((k4.below (by omega)).mono (by omega))
  have s4 : w.heap.size + 1 + 1 < w4.heap.size := Nat.lt_of_lt_of_le s3 k4.size
  have O4 := own_base o4 (b2 := w.heap.size + 1 + 1) (by omega)
  clear hW k4 o4 hB hC
  have Xc := fun i => cell_row h4 i
  have X0 := Xc 0
  have X1 := Xc 1
  have X2 := Xc 2
  have X3 := Xc 3
  have X4 := Xc 4
  have X5 := Xc 5
  have X6 := Xc 6
  have X7 := cell_row h5 0
  simp only [zer7, List.getElem?_toArray, List.getElem?_cons_succ, List.getElem?_cons_zero] at X0 X1 X2 X3 X4 X5 X6 X7
  have XF : ∀ i, w4.frozen? ⟨w.heap.size, i, none⟩ = false := fun i => by simp [World.frozen?, h4]
  have F7 : w4.frozen? ⟨w.heap.size + 1, 0, none⟩ = false := by simp [World.frozen?, h5]
  have F0 := XF 0
  have F1 := XF 1
  have F2 := XF 2
  have F3 := XF 3
  have F4 := XF 4
  have F5 := XF 5
  have F6 := XF 6
  clear Xc XF
  go_wp2_with (go_at_call 117; fail)
  have g0 := K4
  have q0 := h4
  have r0 := h5
  have m0 := c4
  have o0 := O4
  have q1 := heap_set7 q0 0 (.int .i64 l.kd)
  have r1 := (Below.heap_setCell w4 ⟨w.heap.size, 0, none⟩ (.int .i64 l.kd) (w.heap.size + 1) (by simp)).trans r0
  have g1 := Below.setCell g0 (p := ⟨w.heap.size, 0, none⟩) (Nat.le_refl _) (.int .i64 l.kd)
  have b1 := Below.setCell (Below.refl w.heap.size w4) (p := ⟨w.heap.size, 0, none⟩) (Nat.le_refl _) (.int .i64 l.kd)
  have m1 := curK m0 (Kept.set (Kept.refl w.heap.size w4) 0 (.int .i64 l.kd)) (by omega)
  have o1 := own_kept o0 (by omega) (Kept.set (Kept.refl w.heap.size w4) 0 (.int .i64 l.kd))
  generalize w4.setCell ⟨w.heap.size, 0, none⟩ (.int .i64 l.kd) = y1 at *
  have q2 := heap_set7 q1 1 (.string l.nm)
  have r2 := (Below.heap_setCell y1 ⟨w.heap.size, 1, none⟩ (.string l.nm) (w.heap.size + 1) (by simp)).trans r1
  have g2 := Below.setCell g1 (p := ⟨w.heap.size, 1, none⟩) (Nat.le_refl _) (.string l.nm)
  have b2 := Below.setCell (Below.refl w.heap.size y1) (p := ⟨w.heap.size, 1, none⟩) (Nat.le_refl _) (.string l.nm)
  have m2 := curK m1 (Kept.set (Kept.refl w.heap.size y1) 1 (.string l.nm)) (by omega)
  have o2 := own_kept o1 (by omega) (Kept.set (Kept.refl w.heap.size y1) 1 (.string l.nm))
  generalize y1.setCell ⟨w.heap.size, 1, none⟩ (.string l.nm) = y2 at *
  have q3 := heap_set7 q2 2 (.string l.hp)
  have r3 := (Below.heap_setCell y2 ⟨w.heap.size, 2, none⟩ (.string l.hp) (w.heap.size + 1) (by simp)).trans r2
  have g3 := Below.setCell g2 (p := ⟨w.heap.size, 2, none⟩) (Nat.le_refl _) (.string l.hp)
  have b3 := Below.setCell (Below.refl w.heap.size y2) (p := ⟨w.heap.size, 2, none⟩) (Nat.le_refl _) (.string l.hp)
  have m3 := curK m2 (Kept.set (Kept.refl w.heap.size y2) 2 (.string l.hp)) (by omega)
  have o3 := own_kept o2 (by omega) (Kept.set (Kept.refl w.heap.size y2) 2 (.string l.hp))
  generalize y2.setCell ⟨w.heap.size, 2, none⟩ (.string l.hp) = y3 at *
  have q4 := heap_set7 q3 3 (.int .i64 l.of)
  have r4 := (Below.heap_setCell y3 ⟨w.heap.size, 3, none⟩ (.int .i64 l.of) (w.heap.size + 1) (by simp)).trans r3
  have g4 := Below.setCell g3 (p := ⟨w.heap.size, 3, none⟩) (Nat.le_refl _) (.int .i64 l.of)
  have b4 := Below.setCell (Below.refl w.heap.size y3) (p := ⟨w.heap.size, 3, none⟩) (Nat.le_refl _) (.int .i64 l.of)
  have m4 := curK m3 (Kept.set (Kept.refl w.heap.size y3) 3 (.int .i64 l.of)) (by omega)
  have o4 := own_kept o3 (by omega) (Kept.set (Kept.refl w.heap.size y3) 3 (.int .i64 l.of))
  generalize y3.setCell ⟨w.heap.size, 3, none⟩ (.int .i64 l.of) = y4 at *
  have q5 := heap_set7 q4 4 (.string l.sm.nm)
  have r5 := (Below.heap_setCell y4 ⟨w.heap.size, 4, none⟩ (.string l.sm.nm) (w.heap.size + 1) (by simp)).trans r4
  have g5 := Below.setCell g4 (p := ⟨w.heap.size, 4, none⟩) (Nat.le_refl _) (.string l.sm.nm)
  have b5 := Below.setCell (Below.refl w.heap.size y4) (p := ⟨w.heap.size, 4, none⟩) (Nat.le_refl _) (.string l.sm.nm)
  have m5 := curK m4 (Kept.set (Kept.refl w.heap.size y4) 4 (.string l.sm.nm)) (by omega)
  have o5 := own_kept o4 (by omega) (Kept.set (Kept.refl w.heap.size y4) 4 (.string l.sm.nm))
  generalize y4.setCell ⟨w.heap.size, 4, none⟩ (.string l.sm.nm) = y5 at *
  have q6 := heap_set7 q5 5 (.slice p4 n4 cp4)
  have r6 := (Below.heap_setCell y5 ⟨w.heap.size, 5, none⟩ (.slice p4 n4 cp4) (w.heap.size + 1) (by simp)).trans r5
  have g6 := Below.setCell g5 (p := ⟨w.heap.size, 5, none⟩) (Nat.le_refl _) (.slice p4 n4 cp4)
  have b6 := Below.setCell (Below.refl w.heap.size y5) (p := ⟨w.heap.size, 5, none⟩) (Nat.le_refl _) (.slice p4 n4 cp4)
  have m6 := curK m5 (Kept.set (Kept.refl w.heap.size y5) 5 (.slice p4 n4 cp4)) (by omega)
  have o6 := own_kept o5 (by omega) (Kept.set (Kept.refl w.heap.size y5) 5 (.slice p4 n4 cp4))
  generalize y5.setCell ⟨w.heap.size, 5, none⟩ (.slice p4 n4 cp4) = y6 at *
  have q7 := heap_set7 q6 6 (.int .i64 l.sm.v)
  have r7 := (Below.heap_setCell y6 ⟨w.heap.size, 6, none⟩ (.int .i64 l.sm.v) (w.heap.size + 1) (by simp)).trans r6
  have g7 := Below.setCell g6 (p := ⟨w.heap.size, 6, none⟩) (Nat.le_refl _) (.int .i64 l.sm.v)
  have b7 := Below.setCell (Below.refl w.heap.size y6) (p := ⟨w.heap.size, 6, none⟩) (Nat.le_refl _) (.int .i64 l.sm.v)
  have m7 := curK m6 (Kept.set (Kept.refl w.heap.size y6) 6 (.int .i64 l.sm.v)) (by omega)
  have o7 := own_kept o6 (by omega) (Kept.set (Kept.refl w.heap.size y6) 6 (.int .i64 l.sm.v))
  generalize y6.setCell ⟨w.heap.size, 6, none⟩ (.int .i64 l.sm.v) = y7 at *
  simp only [List.setIfInBounds_toArray, List.set_cons_succ, List.set_cons_zero] at q7
  clear g0 g1 g2 g3 g4 g5 g6 q0 q1 q2 q3 q4 q5 q6 r0 r1 r2 r3 r4 r5 r6 m0 m1 m2 m3 m4 m5 m6 o0 o1 o2 o3 o4 o5 o6 b1 b2 b3 b4 b5 b6 b7 X0 X1 X2 X3 X4 X5 X6 X7 F0 F1 F2 F3 F4 F5 F6 F7 h4 h5 c4 O4 K4
  have hlen : s.data.toList.length = s.size := tl_size s
  have q7d : y7.drew.heap[w.heap.size]? = _ := q7
  have r7d : y7.drew.heap[w.heap.size + 1]? = _ := r7
  have hL := left_walk _ s b y7 m7
  have hF := fail_walk _ s b y7.drew m7.drew
  by_cases hb : b < s.size
  ·have Hy : Hid (pRead s.data.toList ended = .error b) := by show _ = _; rw [Hq.out, if_pos (.inl (by rw [hlen]; exact hb))]
   rw [decide_eq_true hb] at hL
   clear Hq hb hlen
   go_wp2_with (first | (go_at_call 117; refine hL.mono ?_; rintro e w' ⟨rfl, rfl⟩) | (go_at_call 118; refine hF.mono ?_; rintro e w' ⟨rfl, rfl⟩))
   refine leaves_cons (f := 115) (args := #[.pointer (some ⟨w.heap.size, 0, none⟩), .pointer (some ⟨w.heap.size + 1, 0, none⟩)]) (by simp) (by simp [go_sem]) ?_
   refine (catch_brk w.heap.size w.heap.size (w.heap.size + 1) ((b : Int) + 1) [] _ _ _ q7d rfl r7d (Nat.le_refl _) (by omega) (by omega)).mono ?_
   rintro e u' w9 ⟨rfl, rfl, g1, g2, g3⟩
   have Zc := fun i => cell_row g2 i
   have Z0 := Zc 0
   have Z1 := Zc 1
   have Z2 := Zc 2
   have Z3 := Zc 3
   have Z4 := Zc 4
   have Z5 := Zc 5
   have Z6 := Zc 6
   have Z7 := cell_row g3 0
   simp only [zer7, List.getElem?_toArray, List.getElem?_cons_succ, List.getElem?_cons_zero] at Z0 Z1 Z2 Z3 Z4 Z5 Z6 Z7
   clear Zc
   simp [Leaves, settle, results, Tryz.results75, loadVar, Z0, Z1, Z2, Z3, Z4, Z5, Z6, Z7, go_sem]
   refine ⟨g7.drew.trans g1, ?_⟩
   rw [Hy.out]
  ·rw [decide_eq_false hb] at hL
   cases ended with
   | false =>
    have Hy : Hid (pRead s.data.toList false = .error b) := by show _ = _; rw [Hq.out, if_pos (.inr rfl)]
    clear Hq hb hlen
    go_wp2_with (first | (go_at_call 117; refine hL.mono ?_; rintro e w' ⟨rfl, rfl⟩) | (go_at_call 118; refine hF.mono ?_; rintro e w' ⟨rfl, rfl⟩))
    refine leaves_cons (f := 115) (args := #[.pointer (some ⟨w.heap.size, 0, none⟩), .pointer (some ⟨w.heap.size + 1, 0, none⟩)]) (by simp) (by simp [go_sem]) ?_
    refine (catch_brk w.heap.size w.heap.size (w.heap.size + 1) ((b : Int) + 1) [] _ _ _ q7d rfl r7d (Nat.le_refl _) (by omega) (by omega)).mono ?_
    rintro e u' w9 ⟨rfl, rfl, g1, g2, g3⟩
    have Zc := fun i => cell_row g2 i
    have Z0 := Zc 0
    have Z1 := Zc 1
    have Z2 := Zc 2
    have Z3 := Zc 3
    have Z4 := Zc 4
    have Z5 := Zc 5
    have Z6 := Zc 6
    have Z7 := cell_row g3 0
    simp only [zer7, List.getElem?_toArray, List.getElem?_cons_succ, List.getElem?_cons_zero] at Z0 Z1 Z2 Z3 Z4 Z5 Z6 Z7
    clear Zc
    simp [Leaves, settle, results, Tryz.results75, loadVar, Z0, Z1, Z2, Z3, Z4, Z5, Z6, Z7, go_sem]
    refine ⟨g7.drew.trans g1, ?_⟩
    rw [Hy.out]
   | true =>
    have Hy : Hid (pRead s.data.toList true = .ok l) := by
     show _ = _
     rw [Hq.out, if_neg]
     rintro (h | h)
     ·rw [hlen] at h; exact hb h
     ·cases h
    clear Hq hb hlen hF
    have Xc := fun i => cell_row q7 i
    have X0 := Xc 0
    have X1 := Xc 1
    have X2 := Xc 2
    have X3 := Xc 3
    have X4 := Xc 4
    have X5 := Xc 5
    have X6 := Xc 6
    have X7 := cell_row r7 0
    simp only [List.getElem?_toArray, List.getElem?_cons_succ, List.getElem?_cons_zero] at X0 X1 X2 X3 X4 X5 X6 X7
    have XF : ∀ i, y7.frozen? ⟨w.heap.size, i, none⟩ = false := fun i => by simp [World.frozen?, q7]
    have F7 : y7.frozen? ⟨w.heap.size + 1, 0, none⟩ = false := by simp [World.frozen?, r7]
    have F0 := XF 0
    have F1 := XF 1
    have F2 := XF 2
    have F3 := XF 3
    have F4 := XF 4
    have F5 := XF 5
    have F6 := XF 6
    clear Xc XF
    go_wp2_with (first | (go_at_call 117; refine hL.mono ?_; rintro e w' ⟨rfl, rfl⟩))
    have GB := (Below.setCell (Below.setCell (Below.setCell (Below.setCell (Below.setCell (Below.setCell (Below.setCell (Below.setCell g7 (p := ⟨w.heap.size, 0, none⟩) (Nat.le_refl _) (.int .i64 l.kd)) (p := ⟨w.heap.size, 1, none⟩) (Nat.le_refl _) (.string l.nm)) (p := ⟨w.heap.size, 2, none⟩) (Nat.le_refl _) (.string l.hp)) (p := ⟨w.heap.size, 3, none⟩) (Nat.le_refl _) (.int .i64 l.of)) (p := ⟨w.heap.size, 4, none⟩) (Nat.le_refl _) (.string l.sm.nm)) (p := ⟨w.heap.size, 5, none⟩) (Nat.le_refl _) (.slice p4 n4 cp4)) (p := ⟨w.heap.size, 6, none⟩) (Nat.le_refl _) (.int .i64 l.sm.v)) (p := ⟨w.heap.size + 1, 0, none⟩) (Nat.le_succ _) (.int .i64 0))
    have GO := own_drew (own_base (b2 := w.heap.size) (own_kept (own_kept (own_kept (own_kept (own_kept (own_kept (own_kept (own_kept (o7) (C := w.heap.size) (by omega) (Kept.set (Kept.refl w.heap.size _) 0 (.int .i64 l.kd))) (C := w.heap.size) (by omega) (Kept.set (Kept.refl w.heap.size _) 1 (.string l.nm))) (C := w.heap.size) (by omega) (Kept.set (Kept.refl w.heap.size _) 2 (.string l.hp))) (C := w.heap.size) (by omega) (Kept.set (Kept.refl w.heap.size _) 3 (.int .i64 l.of))) (C := w.heap.size) (by omega) (Kept.set (Kept.refl w.heap.size _) 4 (.string l.sm.nm))) (C := w.heap.size) (by omega) (Kept.set (Kept.refl w.heap.size _) 5 (.slice p4 n4 cp4))) (C := w.heap.size) (by omega) (Kept.set (Kept.refl w.heap.size _) 6 (.int .i64 l.sm.v))) (C := w.heap.size + 1) (by omega) (Kept.set (Kept.refl (w.heap.size + 1) _) 0 (.int .i64 0))) (by omega))
    refine leaves_cons (f := 115) (args := #[.pointer (some ⟨w.heap.size, 0, none⟩), .pointer (some ⟨w.heap.size + 1, 0, none⟩)]) (by simp) (by simp [go_sem]) ?_
    refine (catch_no _ _ _).mono ?_
    rintro e u' w9 ⟨rfl, rfl, rfl⟩
    simp [Leaves, settle, results, Tryz.results75, loadVar, X0, X1, X2, X3, X4, X5, X6, X7, go_sem]
    have GB2 := GB.drew
    refine ⟨GB2, ?_⟩
    rw [Hy.out]
    exact ⟨_, rfl, GO⟩
