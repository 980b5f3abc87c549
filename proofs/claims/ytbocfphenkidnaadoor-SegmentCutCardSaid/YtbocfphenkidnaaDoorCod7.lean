/- Layer 7: bytes are read as the event whose bytes they are, if there is one. -/
import Derived.Test.YtbocfphenkidnaaDoorCod6
namespace Go.Proofs.YtbocfphenkidnaaDoor.Cod
open Go Go.Px Go.Proofs
set_option maxRecDepth 100000
set_option linter.unusedVariables false

/-- The bytes of an event, part by part. -/
theorem parts {cs ca : Int} {l : List ByteArray} {e : EvD} {b rest : List Int} (h : b = encL cs ca l e ++ rest) :
    b = leb e.k.toNat ++ (leb (e.s - cs).toNat ++ (leb (e.a - ca).toNat ++ (leb (plc l e.c) ++ ((if plc l e.c = 0 then leb e.c.size ++ txB e.c else []) ++ (numB e ++ rest))))) := by
  rw [h]; unfold encL; simp only [List.append_assoc]

theorem nmAt_plc {l : List ByteArray} {s : ByteArray} (h : plc l s ≠ 0) : nmAt l ((plc l s : Int) - 1) = s := by
  obtain ⟨i, hi⟩ : ∃ i, plc l s = i + 1 := ⟨plc l s - 1, by omega⟩
  have h1 := plc_at hi
  have hlt := (List.getElem?_eq_some_iff.1 h1).1
  have h2 := nmAt_some hlt
  rw [h1] at h2
  rw [hi, show ((i + 1 : Nat) : Int) - 1 = (i : Int) by omega]
  injection h2 with h2
  exact h2.symm

/-- Whoever reads with a guess: the event e0 with rest behind. -/
theorem read_core (cs ca : Int) (l : List ByteArray) (b : List Int) (hl : b.length ≤ 100000) (hb : Byts b) (hc : ctxB cs ca l = true) (g : Prop) (e0 : EvD) (rest : List Int) (hg : g → EncOK cs ca l e0 ∧ b = encL cs ca l e0 ++ rest) :
    Ct Tryd.prog 80 {} [cx3 cs ca (nR l), SL 1 (bR b)] (fun r => ∃ (e : EvD) (ok : Bool), r = [e.sv, B ok] ∧ (g → ok = true ∧ e = e0)) := by
  have hcx := ctxB_iff.1 hc
  have hl32 := (rgtB_iff.1 hcx.2).1
  -- what the guess says of the parts
  have G : g → EncOK cs ca l e0 ∧ ((1 ≤ e0.k ∧ e0.k ≤ 10) ∧ (1 ≤ e0.c.size ∧ e0.c.size ≤ 24) ∧ (0 ≤ e0.a ∧ e0.a ≤ 1099511627776) ∧ (0 ≤ e0.s ∧ e0.s ≤ 4294967296)) ∧ cs < e0.s ∧ ca ≤ e0.a ∧ plc l e0.c ≤ 32 ∧ b.drop (0 : Int).toNat = leb e0.k.toNat ++ (leb (e0.s - cs).toNat ++ (leb (e0.a - ca).toNat ++ (leb (plc l e0.c) ++ ((if plc l e0.c = 0 then leb e0.c.size ++ txB e0.c else []) ++ (numB e0 ++ rest))))) := by
    intro h
    obtain ⟨ok, hbe⟩ := hg h
    obtain ⟨c1, c2, c3, c4, c5⟩ := chkE_zero ok.chk
    have := plc_le (l := l) (s := e0.c)
    exact ⟨ok, ⟨c1, c2, c4, c5⟩, ok.seq, ok.time, by omega, by simpa using parts hbe⟩
  have hns : g → ∀ n ∈ numI e0.k e0.x e0.y e0.z, 0 ≤ n ∧ n ≤ 2147483647 := fun h => numI_range (G h).1.chk
  refine read_nf _ _ _ _ _ (Cl.of (start_fn b) ⟨_, _, _, rfl, ?_⟩)
  refine Cl.ofQ (upTo_fn b 0 0 10 hl hb (by omega) (by omega)) ?_
  rintro r ⟨a1, er1, n1, rfl, o1⟩
  refine ⟨_, _, _, _, rfl, ?_⟩
  refine Cl.ofQ (upTo_fn b a1 er1 4294967296 hl hb (by omega) (by omega)) ?_
  rintro r ⟨a2, er2, n2, rfl, o2⟩
  refine ⟨_, _, _, _, rfl, ?_⟩
  refine Cl.ofQ (upTo_fn b a2 er2 1099511627776 hl hb (by omega) (by omega)) ?_
  rintro r ⟨a3, er3, n3, rfl, o3⟩
  refine ⟨_, _, _, _, rfl, ?_⟩
  refine Cl.ofQ (upTo_fn b a3 er3 32 hl hb (by omega) (by omega)) ?_
  rintro r ⟨a4, er4, n4, rfl, o4⟩
  refine ⟨_, _, _, _, rfl, ?_⟩
  have G1 : g → 0 ≤ a1 ∧ er1 = 0 ∧ n1 = e0.k ∧ b.drop a1.toNat = leb (e0.s - cs).toNat ++ (leb (e0.a - ca).toNat ++ (leb (plc l e0.c) ++ ((if plc l e0.c = 0 then leb e0.c.size ++ txB e0.c else []) ++ (numB e0 ++ rest)))) := by
    intro h
    obtain ⟨_, _, _, _, _, hd⟩ := G h
    obtain ⟨q1, q2, q3⟩ := o1.good rfl (by omega) _ _ hd (by omega)
    have := drop_more (by omega) hd
    rw [← q1] at this
    exact ⟨by omega, q2, by omega, this⟩
  have G2 : g → 0 ≤ a2 ∧ er2 = 0 ∧ n2 = e0.s - cs ∧ b.drop a2.toNat = leb (e0.a - ca).toNat ++ (leb (plc l e0.c) ++ ((if plc l e0.c = 0 then leb e0.c.size ++ txB e0.c else []) ++ (numB e0 ++ rest))) := by
    intro h
    obtain ⟨_, _, _, _, _, _⟩ := G h
    obtain ⟨p0, p1, _, hd⟩ := G1 h
    obtain ⟨q1, q2, q3⟩ := o2.good p1 p0 _ _ hd (by omega)
    have := drop_more p0 hd
    rw [← q1] at this
    exact ⟨by omega, q2, by omega, this⟩
  have G3 : g → 0 ≤ a3 ∧ er3 = 0 ∧ n3 = e0.a - ca ∧ b.drop a3.toNat = leb (plc l e0.c) ++ ((if plc l e0.c = 0 then leb e0.c.size ++ txB e0.c else []) ++ (numB e0 ++ rest)) := by
    intro h
    obtain ⟨_, _, _, _, _, _⟩ := G h
    obtain ⟨p0, p1, _, hd⟩ := G2 h
    obtain ⟨q1, q2, q3⟩ := o3.good p1 p0 _ _ hd (by omega)
    have := drop_more p0 hd
    rw [← q1] at this
    exact ⟨by omega, q2, by omega, this⟩
  have G4 : g → 0 ≤ a4 ∧ er4 = 0 ∧ n4 = plc l e0.c ∧ b.drop a4.toNat = (if plc l e0.c = 0 then leb e0.c.size ++ txB e0.c else []) ++ (numB e0 ++ rest) := by
    intro h
    obtain ⟨_, _, _, _, _, _⟩ := G h
    obtain ⟨p0, p1, _, hd⟩ := G3 h
    obtain ⟨q1, q2, q3⟩ := o4.good p1 p0 _ _ hd (by omega)
    have := drop_more p0 hd
    rw [← q1] at this
    exact ⟨by omega, q2, by omega, this⟩
  -- the end, with the name and the numbers
  have o10 := o1.n0
  have o11 := o1.n1
  have fin : ∀ (s : ByteArray) (ms : List Int) (er : Int), (g → s = e0.c) → (g → ms = numI e0.k e0.x e0.y e0.z ∧ er = 0) →
      Cl Tryd.prog 93 sP ([SV.agg [I (wadd IntKind.i64 cs n2), I (wadd IntKind.i64 ca n3), I n1, S s, I 0, I 0, I 0], SL 1 (iR ms)]) (fun (rs7 : List SV) => ∃ x20 : Int, ∃ x21 : Int, ∃ x22 : Int, ∃ s1 : ByteArray, ∃ x23 : Int, ∃ x24 : Int, ∃ x25 : Int, (rs7 = [SV.agg [I x20, I x21, I x22, S s1, I x23, I x24, I x25]]) ∧ (∃ (e : EvD) (ok : Bool), ([SV.agg [I x20, I x21, I x22, S s1, I x23, I x24, I x25], B (ieq er 0)] : List SV) = [e.sv, B ok] ∧ (g → ok = true ∧ e = e0))) := by
    intro s ms er hs hm
    refine Cl.of (fill_fn _ _ _ _ _ _ _ _ (ints_iR ms)) ⟨_, _, _, _, _, _, _, rfl, ⟨wadd IntKind.i64 cs n2, wadd IntKind.i64 ca n3, n1, s, nAt (iR ms) 0, nAt (iR ms) 1, nAt (iR ms) 2⟩, _, rfl, fun h => ?_⟩
    obtain ⟨ok, _, _, _, _, _⟩ := G h
    obtain ⟨_, _, e1, _⟩ := G1 h
    obtain ⟨_, _, e2, _⟩ := G2 h
    obtain ⟨_, _, e3, _⟩ := G3 h
    obtain ⟨e4, e5⟩ := hm h
    have hf := fill_nums ok.chk
    rw [numL_numI, ← e4] at hf
    refine ⟨by simp [e5], ?_⟩
    rw [wadd_i64 (by omega) (by omega), wadd_i64 (by omega) (by omega)]
    have hs := hs h
    obtain ⟨f1, f2, f3⟩ := hf
    obtain ⟨s0, a0, k0, c0, x0, y0, z0⟩ := e0
    simp only [EvD.mk.injEq]
    simp only at *
    exact ⟨by omega, by omega, e1, hs, f1, f2, f3⟩
  have loop : ∀ (s : ByteArray) (a er : Int) {FX : Prop}, FX → (g → s = e0.c) → (g → er = 0 ∧ 0 ≤ a ∧ b.drop a.toNat = numB e0 ++ rest) →
      Cl Tryd.prog 21 sP [I n1] (fun (rs6 : List SV) => ∃ x16 : Int, (rs6 = [I x16]) ∧ (∃ Inv : (List (List SV)) → Int → (List (List SV)) → Int → Int → Prop, ∃ m : (List (List SV)) → Int → (List (List SV)) → Int → Int → Nat, (Inv [] 0 (bR b) a er) ∧ (∀ l6 : List (List SV), ∀ x17 : Int, ∀ l7 : List (List SV), ∀ x18 : Int, ∀ x19 : Int, (Inv l6 x17 l7 x18 x19) → ifB (ilt x17 x16) (Cl Tryd.prog 90 sP ([SV.agg [SL 1 l7, I x18, I x19], U64 2147483647]) (fun (rs7 : List SV) => ∃ l8 : List (List SV), ∃ x20 : Int, ∃ x21 : Int, ∃ x22 : Int, (rs7 = [SV.agg [SL 1 l8, I x20, I x21], I x22]) ∧ (((lsum (rlen l6) (rlen ([[I x22]]))) ≤ ((2147483648 : Int))) ∧ (FX ∧ ((Inv (rapp l6 ([[I x22]])) (wadd IntKind.i64 x17 1) l8 x20 x21) ∧ (Nat.le (Nat.succ (m (rapp l6 ([[I x22]])) (wadd IntKind.i64 x17 1) l8 x20 x21)) (m l6 x17 l7 x18 x19))))))) (Cl Tryd.prog 93 sP ([SV.agg [I (wadd IntKind.i64 cs n2), I (wadd IntKind.i64 ca n3), I n1, S s, I 0, I 0, I 0], SL 1 l6]) (fun (rs7 : List SV) => ∃ x20 : Int, ∃ x21 : Int, ∃ x22 : Int, ∃ s1 : ByteArray, ∃ x23 : Int, ∃ x24 : Int, ∃ x25 : Int, (rs7 = [SV.agg [I x20, I x21, I x22, S s1, I x23, I x24, I x25]]) ∧ (∃ (e : EvD) (ok : Bool), ([SV.agg [I x20, I x21, I x22, S s1, I x23, I x24, I x25], B (ieq x19 0)] : List SV) = [e.sv, B ok] ∧ (g → ok = true ∧ e = e0))))))) := by
    intro s a er FX hFX hs hd
    refine Cl.of (many_fn n1) ⟨_, rfl, ?_⟩
    have hm : 0 ≤ manyI n1 ∧ manyI n1 ≤ 3 := by rcases many_cases n1 with h | h | h | h <;> omega
    by_cases hgg : g
    · exact rd_loop hl hb (g := g) (ns := numI e0.k e0.x e0.y e0.z) (rest := rest) (hns hgg) hm.1 hm.2 (fun h => by rw [numI_len, (G1 h).2.2.1]) hd hFX (fun ms er' h => fin s ms er' hs h)
    · exact rd_loop hl hb (g := g) (ns := []) (rest := rest) (by simp) hm.1 hm.2 (fun h => absurd h hgg) (fun h => absurd h hgg) hFX (fun ms er' h => fin s ms er' hs (fun h => absurd h hgg))
  refine ifB_intro (fun h => ?_) (fun h => ?_)
  · simp at h
    refine Cl.ofQ (text_fn b a4 er4 hl hb) ?_
    rintro r ⟨a5, er5, s, rfl, o5⟩
    refine ⟨_, _, _, _, rfl, ?_⟩
    have G5 : g → a5 = a4 + (leb e0.c.size).length + e0.c.size ∧ er5 = 0 ∧ s = e0.c ∧ 0 ≤ a5 ∧ b.drop a5.toNat = numB e0 ++ rest := by
      intro hh
      obtain ⟨ok, c, _⟩ := G hh
      obtain ⟨p0, p1, p2, hd⟩ := G4 hh
      have hp : plc l e0.c = 0 := by omega
      rw [if_pos hp, List.append_assoc] at hd
      obtain ⟨q1, q2, q3⟩ := o5.good p1 p0 _ _ hd c.2.1.2
      have d1 := drop_more p0 hd
      have d2 := drop_more (by omega) d1
      rw [txB_len, ← q1] at d2
      exact ⟨q1, q2, q3, by omega, d2⟩
    exact loop s a5 er5 rfl (fun hh => (G5 hh).2.2.1) (fun hh => ⟨(G5 hh).2.1, (G5 hh).2.2.2.1, (G5 hh).2.2.2.2⟩)
  · simp at h
    have := o4.n0
    have := o4.n1
    have G6 : g → er4 = 0 ∧ 0 ≤ a4 ∧ b.drop a4.toNat = numB e0 ++ rest := by
      intro hh
      obtain ⟨p0, p1, p2, hd⟩ := G4 hh
      have hp : ¬ plc l e0.c = 0 := by omega
      rw [if_neg hp] at hd
      exact ⟨p1, p0, by simpa using hd⟩
    have hnat := nat_fn l n4 (by omega) (by omega)
    by_cases hin : 1 ≤ n4 ∧ n4 ≤ l.length
    · rw [if_pos hin] at hnat
      refine Cl.of hnat ⟨_, _, rfl, ifB_intro (fun _ => ?_) (fun h => by simp at h)⟩
      refine loop _ a4 er4 rfl (fun hh => ?_) G6
      obtain ⟨_, _, p2, _⟩ := G4 hh
      rw [p2]
      exact nmAt_plc (by omega)
    · rw [if_neg hin] at hnat
      refine Cl.of hnat ⟨_, _, rfl, ifB_intro (fun h => by simp at h) (fun _ => ?_)⟩
      refine loop _ a4 er4 rfl (fun hh => ?_) G6
      obtain ⟨_, _, p2, _⟩ := G4 hh
      have := plc_le (l := l) (s := e0.c)
      omega

theorem byts_enc {cs ca : Int} {l : List ByteArray} {e : EvD} : Byts (encL cs ca l e) := by
  unfold encL numB
  refine Byts.app (Byts.app (Byts.app (Byts.app (Byts.app (byts_leb _) (byts_leb _)) (byts_leb _)) (byts_leb _)) ?_) ?_
  · split
    · exact Byts.app (byts_leb _) (byts_tx _)
    · intro x hx; simp at hx
  · intro x hx
    obtain ⟨n, _, hn⟩ := List.mem_flatMap.1 hx
    exact byts_leb _ x hn

theorem decode_fn (cs ca : Int) (l : List ByteArray) (b : List Int) (hl : b.length ≤ 100000) (hb : Byts b) : Ct Tryd.prog 58 {} [cx3 cs ca (nR l), SL 1 (bR b)] (DOut cs ca l b) := by
  refine decode_nf _ _ _ _ _ (Cl.of (cright_fn cs ca l) ⟨_, rfl, ifB_intro (fun h => ?_) (fun h => ?_)⟩)
  · simp at h
    exact .inl ⟨h, rfl⟩
  · simp at h
    -- is there such an event?
    obtain ⟨g, e0, hg, hno⟩ : ∃ (g : Prop) (e0 : EvD), (g → EncOK cs ca l e0 ∧ b = encL cs ca l e0 ++ []) ∧ (¬ g → ∀ e, EncOK cs ca l e → encL cs ca l e ≠ b) := by
      by_cases hex : ∃ e, EncOK cs ca l e ∧ encL cs ca l e = b
      · obtain ⟨e, h1, h2⟩ := hex
        exact ⟨True, e, fun _ => ⟨h1, by simp [h2]⟩, fun hn => absurd trivial hn⟩
      · exact ⟨False, ⟨0, 0, 0, ByteArray.empty, 0, 0, 0⟩, fun hf => hf.elim, fun _ e h1 h2 => hex ⟨e, h1, h2⟩⟩
    refine Cl.ofQ (read_core cs ca l b hl hb h g e0 [] hg) ?_
    rintro r ⟨e, ok, rfl, hok⟩
    refine ⟨_, _, _, _, _, _, _, _, rfl, ifB_intro (fun h1 => ?_) (fun h1 => ?_)⟩
    · simp at h1
      exact DOut.none h (hno (fun hgg => by rw [(hok hgg).1] at h1; cases h1))
    · have he := encode_fn cs ca l e
      by_cases hE : encE cs ca l e = 0
      · unfold encR at he
        rw [if_pos hE] at he
        refine Cl.of he ⟨_, _, _, _, _, rfl, ifB_intro (fun h2 => by simp at h2) (fun _ => ?_)⟩
        refine Cl.of (bequal_fn _ _ byts_enc hb) ⟨_, rfl, ifB_intro (fun h3 => ?_) (fun h3 => ?_)⟩
        · simp at h3
          refine DOut.none h (hno (fun hgg => ?_))
          obtain ⟨h4, h5⟩ := hg hgg
          rw [(hok hgg).2] at h3
          exact h3 (by simpa using h5.symm)
        · simp at h3
          exact .inr ⟨h, .inl ⟨e, encE_zero.1 hE, h3, rfl⟩⟩
      · unfold encR at he
        rw [if_neg hE] at he
        refine Cl.of he ⟨_, _, _, _, _, rfl, ifB_intro (fun _ => ?_) (fun h2 => by simp at h2; exact absurd h2 hE)⟩
        refine DOut.none h (hno (fun hgg => ?_))
        obtain ⟨h4, h5⟩ := hg hgg
        rw [(hok hgg).2] at hE
        exact hE (encE_zero.2 h4)

end Go.Proofs.YtbocfphenkidnaaDoor.Cod
