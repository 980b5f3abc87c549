/- Functions of the library that layer 22 calls, on plain data. -/
import Derived.Test.YtknnooannohflaaDoorTrmA
import Derived.Test.YtknnooannohflaaDoorPxSh
import Derived.Test.YtknnooannohflaaDoorSht
import Derived.Lib.AtoiErrMem
namespace Go.Proofs.YtknnooannohflaaDoor.Trm
open Go Go.Px Go.Proofs Go.RowKit
set_option maxRecDepth 100000
set_option linter.unusedVariables false

/-- A function on plain values whose results are plain data, which writes nothing that was there. -/
theorem ct_of_callsR {P : Program} {f : FuncId} {fn : Func} (hf : P.funcs[f]? = some fn) (hb : fn.body.isSome = true) (hn : (fn.name == "runtime.NumGoroutine") = false) (args : List SV) (Q : List SV → Prop)
    (hc : ∀ (h : Hp) (ρ : Nat → Px.Loc) (w : World) (vs : Array Value), HSub h w → Gl h w → RepAll h ρ vs.toList args → Calls P f vs w fun e w' => ∃ (vr : List Value) (rs : List SV), e = .returned (rets vr) ∧ vr.length = rs.length ∧
      (∀ (i : Nat) v s, vr[i]? = some v → rs[i]? = some s → PRep h v s) ∧ Q rs ∧ Below w.heap.size w w') : Ct P f {} args Q := by
  refine ⟨⟨fn, hf, hb, fun e => by rw [e] at hn; simp at hn⟩, fun hs objs hargs h ρ w vs hH hgl hrep => ?_⟩
  rw [argsH_pureAll] at hargs
  cases hargs
  refine (hc h ρ w vs hH.sub hgl hrep).mono ?_
  rintro e w' ⟨vr, rs, rfl, hl, hp, hq, hbl⟩
  have hsub : HSub h w' := hsub_carry hH.sub (fun b hb => hbl.block b hb)
  have hold : Px.Holds h ρ [] w' := ⟨hsub, fun id o hm => (by simp at hm), fun i j hi => by obtain ⟨⟨o, e⟩, _⟩ := hi; simp [oget] at e⟩
  have hend : endH {} vr.length rs = some (rs, []) := by
    unfold endH
    rw [hl]
    simp [argsH_pureAll, lentH]
  exact ⟨vr, h, ρ, rs, rs, [], rfl, hq, hend, ⟨hl, fun i v s hv hs => .pure _ _ (hp i v s hv hs)⟩, hold, fun i hi => (by obtain ⟨⟨o, e⟩, _⟩ := hi; simp [oget] at e), fun i ms hm => (by simp at hm), HLe.refl h, fun b _ _ o e => e,
    ⟨hbl.os, hbl.tape, hbl.output, hbl.size, fun k hk _ => hbl.block k hk⟩⟩

theorem arr_of {vs : Array Value} {l : List Value} (h : vs.toList = l) : vs = l.toArray := by rw [← h]

theorem tab_is {h : Hp} {w : World} (hs : HSub h w) (g : Gl h w) : Lib.TabIs Tryd.prog w "internal/strconv.uint64pow10" .u64 Lib.pow10Tab := by
  have hn : Tryd.prog.globalNamed "internal/strconv.uint64pow10" = some 3 := by kernel_rfl
  have hp : (3, pow10) ∈ globTab := by simp [globTab]
  obtain ⟨_, cs, t, fz, hb, hsz⟩ := g.size _ hp
  have hcell : ∀ (i : Nat) (z : Int), Lib.pow10Tab[i]? = some z → cs[i]? = some (.int .u64 z) := by
    intro i z hz
    have hc : pow10[i]? = some (.val (.int .u64 z)) := by
      have : pow10 = Lib.pow10Tab.map fun z => SV.val (.int .u64 z) := by kernel_rfl
      rw [this, List.getElem?_map, hz]; rfl
    obtain ⟨v, h1, h2⟩ := g.cells _ hp i _ hc
    have h3 := hs _ _ _ h1
    have h4 : v = .int .u64 z := (Rep.pure (ρ := fun _ => noLoc) v _ h2).val_inv
    subst h4
    simp only [World.cell?, hb] at h3
    simpa using h3
  have hl : pow10.length = Lib.pow10Tab.length := by decide +kernel
  unfold Lib.TabIs World.var?
  rw [hn]
  simp only [Option.bind_some, hb]
  congr 1
  apply Array.ext
  · rw [hsz]; simp [hl]
  · intro i h1 h2
    have h3 : i < Lib.pow10Tab.length := by simp at h2; omega
    have := hcell i _ (List.getElem?_eq_getElem h3)
    rw [Array.getElem?_eq_getElem h1] at this
    simpa using this

theorem err_is {h : Hp} {w : World} (hs : HSub h w) (g : Gl h w) {k : Nat} (hk : (k, [SV.ifc 276 .unk]) ∈ globTab) {n : String} (hn : Tryd.prog.globalNamed n = some k) : ∃ p, w.var? Tryd.prog n = some #[.iface 276 p] := by
  obtain ⟨_, cs, t, fz, hb, hsz⟩ := g.size _ hk
  obtain ⟨v, h1, h2⟩ := g.cells _ hk 0 _ rfl
  have h3 := hs _ _ _ h1
  cases h2 with
  | ifc _ p _ _ =>
    refine ⟨p, ?_⟩
    unfold World.var?
    rw [hn]
    simp only [Option.bind_some, hb]
    congr 1
    simp only [World.cell?, hb] at h3
    rcases cs with ⟨l⟩
    match l, hsz with
    | [x], _ => simp at h3; rw [h3]

theorem fmt10_fn (n : Int) (h0 : -9223372036854775808 ≤ n) (h1 : n ≤ 9223372036854775807) : Ct Tryd.prog 140 {} [I n, I 10] (fun r => r = [S (bA (Lib.itoa n))]) := by
  refine ct_of_calls Tryd.func140 (by kernel_rfl) (fun e => ?_) [.int .i64 n, .int .i64 10] (.string ⟨(Lib.itoa n).toArray⟩) (fun h w hs hg => ?_)
  · have : (Tryd.f140.name == "runtime.NumGoroutine") = false := by kernel_rfl
    rw [e] at this; simp at this
  · refine (Tryd.strconv_FormatInt_10 n h0 h1 w (tab_is hs hg)).mono ?_
    rintro e w' ⟨rfl, k2, os, rfl⟩
    refine ⟨rfl, rfl, rfl, rfl, by simp [Sort.grow], fun k hk => ?_⟩
    have : k < (w.drewN k2).heap.size := hk
    simp only [Sort.grow]
    rw [Array.getElem?_append_left this]
    rfl

/-- What ParseInt tells of a text. -/
def PiR (s : ByteArray) (r : List SV) : Prop :=
  ∃ (v : Int) (e : SV), r = [I v, e] ∧ ((Lib.parseIntB 64 s.data.toList = .ok v ∧ e = .val .nilIface) ∨ ((∀ u, Lib.parseIntB 64 s.data.toList ≠ .ok u) ∧ e = .ifc 261 .unk))

theorem pint_fn (s : ByteArray) (hs : s.size ≤ 281474976710656) : Ct Tryd.prog 142 {} [S s, I 10, I 64] (PiR s) := by
  refine ct_of_callsR Tryd.func142 (by kernel_rfl) (by kernel_rfl) _ _ (fun h ρ w vs hsub hgl hrep => ?_)
  obtain rfl : vs = #[.string s, .int .i64 10, .int .i64 64] := arr_of (rep_vals vs.toList [.string s, .int .i64 10, .int .i64 64] hrep)
  cases hp : Lib.parseIntB 64 s.data.toList with
  | ok v =>
    refine (Tryd.strconv_ParseInt_10_at64_ok s (by omega) v hp w).mono ?_
    rintro e w' ⟨rfl, hw⟩
    refine ⟨[.int .i64 v, .nilIface], [I v, .val .nilIface], rfl, rfl, ?_, ⟨v, _, rfl, .inl ⟨hp, rfl⟩⟩, ?_⟩
    · intro i x y hx hy
      match i, hx, hy with
      | 0, hx, hy => cases hx; cases hy; exact .val _
      | 1, hx, hy => cases hx; cases hy; exact .val _
      | i + 2, hx, hy => simp at hx
    · rcases hw with rfl | ⟨t, rfl⟩
      · exact Below.refl _ _
      · exact Lib.bytesWorld_below _ _ _
  | range =>
    obtain ⟨p, hv⟩ := err_is hsub hgl (k := 5) (by simp [globTab]) (n := "strconv.ErrRange") (by kernel_rfl)
    refine (Tryd.strconv_ParseInt_10_at64_range_var s hs hp _ p w hv).mono ?_
    rintro e w' ⟨N, rfl, _, _, hbl⟩
    refine ⟨[.int .i64 (Lib.intSat 64 s.data.toList), .iface 261 (.pointer (some ⟨N, 0, none⟩))], [I (Lib.intSat 64 s.data.toList), .ifc 261 .unk], rfl, rfl, ?_, ⟨Lib.intSat 64 s.data.toList, _, rfl, .inr ⟨fun u => by rw [hp]; simp, rfl⟩⟩, hbl⟩
    intro i x y hx hy
    match i, hx, hy with
    | 0, hx, hy => cases hx; cases hy; exact .val _
    | 1, hx, hy => cases hx; cases hy; exact .ifc _ _ _ (.unk _)
    | i + 2, hx, hy => simp at hx
  | _ =>
    obtain ⟨p, hv⟩ := err_is hsub hgl (k := 4) (by simp [globTab]) (n := "strconv.ErrSyntax") (by kernel_rfl)
    refine (Tryd.strconv_ParseInt_10_at64_syntax_var s hs hp _ p w hv).mono ?_
    rintro e w' ⟨N, rfl, _, _, hbl⟩
    refine ⟨[.int .i64 0, .iface 261 (.pointer (some ⟨N, 0, none⟩))], [I 0, .ifc 261 .unk], rfl, rfl, ?_, ⟨0, _, rfl, .inr ⟨fun u => by rw [hp]; simp, rfl⟩⟩, hbl⟩
    intro i x y hx hy
    match i, hx, hy with
    | 0, hx, hy => cases hx; cases hy; exact .val _
    | 1, hx, hy => cases hx; cases hy; exact .ifc _ _ _ (.unk _)
    | i + 2, hx, hy => simp at hx

theorem idxB_fn (s : ByteArray) (c : Int) : Ct Tryd.prog 143 {} [S s, U8 c] (fun r => r = [I (Lib.indexByte s.data.toList c.toNat.toUInt8)]) := by
  refine ct_of_calls Tryd.func143 (by kernel_rfl) (fun e => ?_) [.string s, .int .u8 c] (.int .i64 (Lib.indexByte s.data.toList c.toNat.toUInt8)) (fun h w hs hg => ?_)
  · have : (Tryd.f143.name == "runtime.NumGoroutine") = false := by kernel_rfl
    rw [e] at this; simp at this
  · refine (Tryd.strings_IndexByte s c w).mono ?_
    rintro e w' ⟨rfl, rfl⟩
    exact ⟨rfl, Below.refl _ _⟩

theorem idx1_fn (s : ByteArray) : Ct Tryd.prog 126 {} [S s, S (ByteArray.mk (Array.mk [32]))] (fun r => r = [I (Lib.indexByte s.data.toList 32)]) := by
  refine ct_of_calls Tryd.func126 (by kernel_rfl) (fun e => ?_) [.string s, .string ⟨#[32]⟩] (.int .i64 (Lib.indexByte s.data.toList 32)) (fun h w hs hg => ?_)
  · have : (Tryd.f126.name == "runtime.NumGoroutine") = false := by kernel_rfl
    rw [e] at this; simp at this
  · refine (Tryd.stringslite_Index_one s 32 w).mono ?_
    rintro e w' ⟨rfl, rfl⟩
    exact ⟨rfl, Below.refl _ _⟩

abbrev nR (ws : List Tx) : List (List SV) := ws.map fun w => [S (bA w)]

theorem join_fn (ws : List Tx) (h1 : ws.length ≤ 1000000) (h2 : (jn ws).length ≤ 1000000) : Ct Tryd.prog 38 {} [SL 1 (nR ws), S (ByteArray.mk (Array.mk [32]))] (fun r => r = [S (bA (jn ws))]) := by
  refine ct_of_callsR Tryd.func38 (by kernel_rfl) (by kernel_rfl) _ _ (fun h ρ w vs hsub hgl hrep => ?_)
  obtain ⟨v0, v1, hvs⟩ : ∃ v0 v1, vs.toList = [v0, v1] := by
    have := hrep.1
    match h : vs.toList, this with
    | [a, b], _ => exact ⟨a, b, rfl⟩
  obtain rfl := arr_of hvs
  have r0 : Rep h ρ v0 (SL 1 (nR ws)) := hrep.2 0 v0 _ rfl rfl
  have r1 : v1 = .string ⟨#[32]⟩ := (hrep.2 1 v1 (S _) rfl rfl).val_inv
  subst r1
  have fin : ∀ (w' : World), Below w.heap.size w w' → ∃ (vr : List Value) (rs : List SV), Ending.returned (Value.string (bA (jn ws))) = .returned (rets vr) ∧ vr.length = rs.length ∧ (∀ (i : Nat) v s, vr[i]? = some v → rs[i]? = some s → PRep h v s) ∧ rs = [S (bA (jn ws))] ∧ Below w.heap.size w w' := fun w' hb => by
    refine ⟨[.string (bA (jn ws))], [S (bA (jn ws))], rfl, rfl, fun i x y hx hy => ?_, rfl, hb⟩
    match i, hx, hy with
    | 0, hx, hy => cases hx; cases hy; exact .val _
    | i + 1, hx, hy => simp at hx
  cases r0 with
  | pure _ _ r0 =>
    generalize hg : nR ws = rows at r0
    cases r0 with
    | empty p cap =>
      have : ws = [] := by simpa using hg
      subst this
      refine (Tryd.strings_Join_none p cap _ w).mono ?_
      rintro e w' ⟨rfl, rfl⟩
      exact fin _ (Below.refl _ _)
    | slice b off cap _ _ _ vv hpos hz hh hr ho ht hh1 hle =>
      subst hg
      have hcell : ∀ (j : Nat) x, (ws.map bA)[j]? = some x → w.cell? ⟨b, off + j, none⟩ = some (.string x) := by
        intro j x hj
        rw [List.getElem?_map, Option.map_eq_some_iff] at hj
        obtain ⟨u, hu, rfl⟩ := hj
        have hrow : (nR ws)[j]? = some [S (bA u)] := by rw [List.getElem?_map, hu]; rfl
        have q1 := hsub _ _ _ (hh j _ 0 _ hrow rfl)
        have q2 : vv j 0 = .string (bA u) := (Rep.pure (ρ := ρ) _ _ (hr j _ 0 _ hrow rfl)).val_inv
        rw [q2] at q1
        simpa using q1
      rw [List.length_map] at hle ⊢
      by_cases hne : ws = []
      · subst hne
        refine (Tryd.strings_Join_none _ cap _ w).mono ?_
        rintro e w' ⟨rfl, rfl⟩
        exact fin _ (Below.refl _ _)
      · have hb : b < w.heap.size := by
          obtain ⟨u, us, rfl⟩ : ∃ u us, ws = u :: us := by
            cases ws with
            | nil => exact absurd rfl hne
            | cons u us => exact ⟨u, us, rfl⟩
          have := hcell 0 (bA u) rfl
          rcases Nat.lt_or_ge b w.heap.size with q | q
          · exact q
          · simp [World.cell?, Array.getElem?_eq_none q] at this
        have hmap : (ws.map bA).map (·.data.toList) = ws := by
          rw [List.map_map]
          conv => rhs; rw [← List.map_id ws]
          exact List.map_congr_left fun x _ => bA_list x
        have hj := Tryd.strings_Join b off cap (ws.map bA) ⟨#[32]⟩ w hcell hb (by rw [List.length_map]; omega) (by rw [List.length_map]; exact hle) (by rw [hmap]; show (jn ws).length ≤ _; omega)
        rw [List.length_map, hmap] at hj
        refine hj.mono ?_
        rintro e w' ⟨rfl, hbl⟩
        exact fin _ hbl

/- A name, spelt. -/
theorem hex_at (n : Nat) (h : n < 16) : (ByteArray.mk #[48, 49, 50, 51, 52, 53, 54, 55, 56, 57, 97, 98, 99, 100, 101, 102])[n]? = some (hd1 n) := by
  have : ∀ m : Fin 16, (ByteArray.mk #[48, 49, 50, 51, 52, 53, 54, 55, 56, 57, 97, 98, 99, 100, 101, 102])[m.val]? = some (hd1 m.val) := by decide
  exact this ⟨n, h⟩

end Go.Proofs.YtknnooannohflaaDoor.Trm
