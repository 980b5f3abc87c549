/- Layer 7: the document's decoding; the law CodecRight. -/
import Derived.Test.YtpgahnnbpfeldaaCod7
namespace Go.Proofs.Ytpgahnnbpfeldaa.Cod
open Go Go.Px Go.Proofs
set_option maxRecDepth 100000
set_option linter.unusedVariables false

theorem rdecode_fn (cs ca : Int) (l : List ByteArray) (b : List Int) (hl : b.length ≤ 100000) (hb : Byts b) (hll : l.length ≤ 1000000) : Ct Try.prog 34 {} [cx3 cs ca (nR l), SL 1 (bR b)] (DOut cs ca l b) := by
  refine rdecode_nf _ _ _ _ _ (Cl.of (crright_fn cs ca l hll) ⟨_, rfl, ifB_intro (fun h => ?_) (fun h => ?_)⟩)
  · simp at h
    exact .inl ⟨h, rfl⟩
  · simp at h
    have hcx := ctxB_iff.1 h
    have hl32 := (rgtB_iff.1 hcx.2).1
    obtain ⟨g, e0, hg, hno⟩ : ∃ (g : Prop) (e0 : EvD), (g → EncOK cs ca l e0 ∧ b = encL cs ca l e0 ++ []) ∧ (¬ g → ∀ e, EncOK cs ca l e → encL cs ca l e ≠ b) := by
      by_cases hex : ∃ e, EncOK cs ca l e ∧ encL cs ca l e = b
      · obtain ⟨e, h1, h2⟩ := hex
        exact ⟨True, e, fun _ => ⟨h1, by simp [h2]⟩, fun hn => absurd trivial hn⟩
      · exact ⟨False, ⟨0, 0, 0, ByteArray.empty, 0, 0, 0⟩, fun hf => hf.elim, fun _ e h1 h2 => hex ⟨e, h1, h2⟩⟩
    have Q11 : ¬ g → DOut cs ca l b [ev0, cx3 cs ca (nR l), I 11] := fun hn => DOut.none h (hno hn)
    have G : g → EncOK cs ca l e0 ∧ ((1 ≤ e0.k ∧ e0.k ≤ 10) ∧ (1 ≤ e0.c.size ∧ e0.c.size ≤ 24) ∧ (0 ≤ e0.a ∧ e0.a ≤ 1099511627776) ∧ (0 ≤ e0.s ∧ e0.s ≤ 4294967296)) ∧ cs < e0.s ∧ ca ≤ e0.a ∧ plc l e0.c ≤ l.length ∧ b = leb e0.k.toNat ++ (leb (e0.s - cs).toNat ++ (leb (e0.a - ca).toNat ++ (leb (plc l e0.c) ++ ((if plc l e0.c = 0 then leb e0.c.size ++ txB e0.c else []) ++ (numB e0 ++ []))))) := by
      intro h
      obtain ⟨ok, hbe⟩ := hg h
      obtain ⟨c1, c2, c3, c4, c5⟩ := chkE_zero ok.chk
      exact ⟨ok, ⟨c1, c2, c4, c5⟩, ok.seq, ok.time, plc_le, parts hbe⟩
    -- the numbers of the event, and the end
    have loop2 : ∀ (s : ByteArray) (a er n0 n1 n2 : Int) {FX : Prop}, FX → 0 ≤ n0 → n0 ≤ 10 → 0 ≤ n1 → n1 ≤ 4294967296 → 0 ≤ n2 → n2 ≤ 1099511627776 → (g → s = e0.c ∧ n0 = e0.k ∧ n1 = e0.s - cs ∧ n2 = e0.a - ca) → (g → er = 0 ∧ 0 ≤ a ∧ b.drop a.toNat = numB e0 ++ []) →
        Cl Try.prog 21 sP [I (wcv IntKind.i64 n0)] (fun (rs1 : List SV) => ∃ x7 : Int, (rs1 = [I x7]) ∧ (∃ Inv1 : Int → (List (List SV)) → Int → Int → Int → Int → Int → ByteArray → Int → Int → Int → Prop, ∃ m1 : Int → (List (List SV)) → Int → Int → Int → Int → Int → ByteArray → Int → Int → Int → Nat, (Inv1 0 (bR b) a er (wadd IntKind.i64 cs (wcv IntKind.i64 n1)) (wadd IntKind.i64 ca (wcv IntKind.i64 n2)) (wcv IntKind.i64 n0) s 0 0 0) ∧ (∀ x8 : Int, ∀ l1 : List (List SV), ∀ x9 : Int, ∀ x10 : Int, ∀ x11 : Int, ∀ x12 : Int, ∀ x13 : Int, ∀ s1 : ByteArray, ∀ x14 : Int, ∀ x15 : Int, ∀ x16 : Int, (Inv1 x8 l1 x9 x10 x11 x12 x13 s1 x14 x15 x16) → ifB (ilt x8 x7) (Cl Try.prog 96 sP ([SV.agg [SL 1 l1, I x9, I x10]]) (fun (rs2 : List SV) => ∃ l2 : List (List SV), ∃ x17 : Int, ∃ x18 : Int, ∃ x19 : Int, (rs2 = [SV.agg [SL 1 l2, I x17, I x18], U64 x19]) ∧ (ifB (igt x19 2147483647) (DOut cs ca l b ([SV.agg ([I 0, I 0, I 0, S (ByteArray.mk (Array.mk [])), I 0, I 0, I 0]), SV.agg [I cs, I ca, SL 1 (nR l)], I 11])) (ifB (ieq x8 0) (FX ∧ ((Inv1 (wadd IntKind.i64 x8 1) l2 x17 x18 x11 x12 x13 s1 (wcv IntKind.i64 x19) x15 x16) ∧ (Nat.le (Nat.succ (m1 (wadd IntKind.i64 x8 1) l2 x17 x18 x11 x12 x13 s1 (wcv IntKind.i64 x19) x15 x16)) (m1 x8 l1 x9 x10 x11 x12 x13 s1 x14 x15 x16)))) (ifB (ieq x8 1) (FX ∧ ((Inv1 (wadd IntKind.i64 x8 1) l2 x17 x18 x11 x12 x13 s1 x14 (wcv IntKind.i64 x19) x16) ∧ (Nat.le (Nat.succ (m1 (wadd IntKind.i64 x8 1) l2 x17 x18 x11 x12 x13 s1 x14 (wcv IntKind.i64 x19) x16)) (m1 x8 l1 x9 x10 x11 x12 x13 s1 x14 x15 x16)))) (FX ∧ ((Inv1 (wadd IntKind.i64 x8 1) l2 x17 x18 x11 x12 x13 s1 x14 x15 (wcv IntKind.i64 x19)) ∧ (Nat.le (Nat.succ (m1 (wadd IntKind.i64 x8 1) l2 x17 x18 x11 x12 x13 s1 x14 x15 (wcv IntKind.i64 x19))) (m1 x8 l1 x9 x10 x11 x12 x13 s1 x14 x15 x16))))))))) (Cl Try.prog 29 sP ([SV.agg [I cs, I ca, SL 1 (nR l)], SV.agg [I x11, I x12, I x13, S s1, I x14, I x15, I x16]]) (fun (rs2 : List SV) => ∃ l2 : List (List SV), ∃ x17 : Int, ∃ x18 : Int, ∃ l3 : List (List SV), ∃ x19 : Int, (rs2 = [SL 1 l2, SV.agg [I x17, I x18, SL 1 l3], I x19]) ∧ (ifB (bpick (ine x10 0) true (ine x19 0)) (DOut cs ca l b ([SV.agg ([I 0, I 0, I 0, S (ByteArray.mk (Array.mk [])), I 0, I 0, I 0]), SV.agg [I cs, I ca, SL 1 (nR l)], I 11])) ((isBytes l2) ∧ ((isBytes (bR b)) ∧ (ifB (bpick false true (sne (bstr l2) (bstr (bR b)))) (DOut cs ca l b ([SV.agg ([I 0, I 0, I 0, S (ByteArray.mk (Array.mk [])), I 0, I 0, I 0]), SV.agg [I cs, I ca, SL 1 (nR l)], I 11])) (DOut cs ca l b ([SV.agg [I x11, I x12, I x13, S s1, I x14, I x15, I x16], SV.agg [I x17, I x18, SL 1 l3], I 0]))))))))))) := by
      intro s a er n0 n1 n2 FX hFX p0 p1 p2 p3 p4 p5 hs hd
      rw [wcvI64 (by omega) (by omega), wcvI64 (by omega) (by omega), wcvI64 (by omega) (by omega), wadd_i64 (by omega) (by omega), wadd_i64 (by omega) (by omega)]
      refine Cl.of (rmany_fn n0) ⟨_, rfl, ?_⟩
      have hm : 0 ≤ manyI n0 ∧ manyI n0 ≤ 3 := by rcases many_cases n0 with h | h | h | h <;> omega
      have hcnt : g → manyI n0 = (numI e0.k e0.x e0.y e0.z).length := fun hh => by rw [numI_len, (hs hh).2.1]
      have hns : g → ∀ n ∈ numI e0.k e0.x e0.y e0.z, 0 ≤ n ∧ n ≤ 2147483647 := fun hh => numI_range (G hh).1.chk
      refine ⟨fun i rows a er s' a' k' c' x y z => 0 ≤ i ∧ i ≤ manyI n0 ∧ rows = bR b ∧ s' = cs + n1 ∧ a' = ca + n2 ∧ k' = n0 ∧ c' = s ∧ (g → er = 0 ∧ 0 ≤ a ∧ b.drop a.toNat = ((numI e0.k e0.x e0.y e0.z).drop i.toNat).flatMap (fun n => leb n.toNat) ∧ x = ((numI e0.k e0.x e0.y e0.z).take i.toNat).getD 0 0 ∧ y = ((numI e0.k e0.x e0.y e0.z).take i.toNat).getD 1 0 ∧ z = ((numI e0.k e0.x e0.y e0.z).take i.toNat).getD 2 0),
        fun i _ _ _ _ _ _ _ _ _ _ => (manyI n0 - i).toNat, ⟨by omega, by omega, rfl, rfl, rfl, rfl, rfl, fun hh => ?_⟩, ?_⟩
      · obtain ⟨q1, q2, q3⟩ := hd hh
        exact ⟨q1, q2, by simpa [numB] using q3, by simp, by simp, by simp⟩
      rintro i rows a1 er1 s' a' k' c' x y z ⟨i0, i1, rfl, rfl, rfl, rfl, rfl, hgo⟩
      refine ifB_intro (fun hi => ?_) (fun hi => ?_)
      · simp at hi
        have w : wadd IntKind.i64 i 1 = i + 1 := wadd_i64 (by omega) (by omega)
        refine Cl.ofQ (ruint_fn b a1 er1 hl hb) ?_
        rintro r ⟨a2, er2, n, rfl, ho⟩
        have hn0 := ho.n0
        have good : g → (n : Int) ≤ 2147483647 ∧ er2 = 0 ∧ 0 ≤ a2 ∧ b.drop a2.toNat = ((numI e0.k e0.x e0.y e0.z).drop (i + 1).toNat).flatMap (fun n => leb n.toNat) ∧ (numI e0.k e0.x e0.y e0.z).take (i + 1).toNat = (numI e0.k e0.x e0.y e0.z).take i.toNat ++ [n] ∧ ((numI e0.k e0.x e0.y e0.z).take i.toNat).length = i.toNat := by
          intro hh
          obtain ⟨g1, g2, g3, _⟩ := hgo hh
          have hx : i.toNat < (numI e0.k e0.x e0.y e0.z).length := by have := hcnt hh; omega
          have hr := hns hh _ (List.getElem_mem hx)
          rw [List.drop_eq_getElem_cons hx, List.flatMap_cons] at g3
          obtain ⟨q1, q2, q3⟩ := ho.good g1 g2 _ _ g3 (by omega)
          have hdm := drop_more g2 g3
          have e1 : (i + 1).toNat = i.toNat + 1 := by omega
          refine ⟨by omega, q2, by omega, by rw [q1, hdm, e1], ?_, by rw [List.length_take]; omega⟩
          rw [e1, List.take_add_one, List.getElem?_eq_getElem hx, q3]
          have : (((numI e0.k e0.x e0.y e0.z)[i.toNat].toNat : Nat) : Int) = (numI e0.k e0.x e0.y e0.z)[i.toNat] := by omega
          rw [this]; rfl
        refine ⟨_, _, _, _, rfl, ifB_intro (fun hbig => ?_) (fun hbig => ?_)⟩
        · simp at hbig
          exact Q11 (fun hh => by have := (good hh).1; omega)
        · simp at hbig
          rw [w, wcvI64 (by omega) (by omega)]
          refine ifB_intro (fun hi0 => ?_) (fun hi0 => ?_)
          · simp at hi0
            refine ⟨hFX, ⟨by omega, by omega, rfl, rfl, rfl, rfl, rfl, fun hh => ?_⟩, mlt (by dsimp only; omega)⟩
            obtain ⟨_, q2, q3, q4, q5, q6⟩ := good hh
            obtain ⟨_, _, _, y1, y2, y3⟩ := hgo hh
            refine ⟨q2, q3, q4, ?_, ?_, ?_⟩ <;> rw [q5]
            · simp [hi0]
            · simp [y2, hi0]
            · simp [y3, hi0]
          · simp at hi0
            refine ifB_intro (fun hi1 => ?_) (fun hi1 => ?_)
            · simp at hi1
              refine ⟨hFX, ⟨by omega, by omega, rfl, rfl, rfl, rfl, rfl, fun hh => ?_⟩, mlt (by dsimp only; omega)⟩
              obtain ⟨_, q2, q3, q4, q5, q6⟩ := good hh
              obtain ⟨_, _, _, y1, y2, y3⟩ := hgo hh
              generalize (numI e0.k e0.x e0.y e0.z).take i.toNat = pre at *
              obtain ⟨p, rfl⟩ : ∃ p, pre = [p] := by
                match pre, q6 with
                | [p], _ => exact ⟨p, rfl⟩
                | [], q => simp at q; omega
                | _ :: _ :: _, q => simp at q; omega
              refine ⟨q2, q3, q4, ?_, ?_, ?_⟩ <;> rw [q5]
              · simpa using y1
              · simp
              · simpa using y3
            · simp at hi1
              refine ⟨hFX, ⟨by omega, by omega, rfl, rfl, rfl, rfl, rfl, fun hh => ?_⟩, mlt (by dsimp only; omega)⟩
              obtain ⟨_, q2, q3, q4, q5, q6⟩ := good hh
              obtain ⟨_, _, _, y1, y2, y3⟩ := hgo hh
              generalize (numI e0.k e0.x e0.y e0.z).take i.toNat = pre at *
              obtain ⟨p, p', rfl⟩ : ∃ p p', pre = [p, p'] := by
                match pre, q6 with
                | [p, p'], _ => exact ⟨p, p', rfl⟩
                | [], q => simp at q; omega
                | [_], q => simp at q; omega
                | _ :: _ :: _ :: _, q => simp at q; omega
              refine ⟨q2, q3, q4, ?_, ?_, ?_⟩ <;> rw [q5]
              · simpa using y1
              · simpa using y2
              · simp
      · simp at hi
        have eq0 : g → er1 = 0 ∧ (⟨cs + n1, ca + n2, k', c', x, y, z⟩ : EvD) = e0 := by
          intro hh
          obtain ⟨q1, _, _, y1, y2, y3⟩ := hgo hh
          obtain ⟨z1, z2, z3, z4⟩ := hs hh
          have hlen : (numI e0.k e0.x e0.y e0.z).take i.toNat = numI e0.k e0.x e0.y e0.z := List.take_of_length_le (by have := hcnt hh; omega)
          rw [hlen] at y1 y2 y3
          have hf := fill_nums (G hh).1.chk
          rw [numL_numI] at hf
          have hat : ∀ (ns : List Int) (j : Nat), nAt (ns.map fun n => [I n]) j = ns.getD j 0 := by
            intro ns j
            unfold nAt
            rw [List.getElem?_map]
            cases hj : ns[j]? with
            | none => simp [hj]
            | some v => simp [hj]
          rw [hat, hat, hat] at hf
          refine ⟨q1, ?_⟩
          obtain ⟨s0, a0, k0, c0, x0, y0, z0⟩ := e0
          simp only [EvD.mk.injEq]
          simp only at *
          exact ⟨by omega, by omega, z2, z1, by rw [y1]; exact hf.1, by rw [y2]; exact hf.2.1, by rw [y3]; exact hf.2.2⟩
        have he := rencode_fn cs ca l ⟨cs + n1, ca + n2, k', c', x, y, z⟩ hll
        by_cases hE : encE cs ca l ⟨cs + n1, ca + n2, k', c', x, y, z⟩ = 0
        · unfold encR at he
          rw [if_pos hE] at he
          refine Cl.of he ⟨_, _, _, _, _, rfl, ifB_intro (fun h2 => ?_) (fun _ => ⟨isBytes_bR byts_enc, isBytes_bR hb, ?_⟩)⟩
          · refine Q11 (fun hh => ?_)
            have := (eq0 hh).1
            simp [this] at h2
          · rw [sne_d]
            refine ifB_intro (fun h3 => ?_) (fun h3 => ?_)
            · simp [bstr_inj byts_enc hb] at h3
              refine Q11 (fun hh => ?_)
              obtain ⟨h4, h5⟩ := hg hh
              rw [(eq0 hh).2] at h3
              exact h3 (by simpa using h5.symm)
            · simp [bstr_inj byts_enc hb] at h3
              exact .inr ⟨h, .inl ⟨_, encE_zero.1 hE, h3, rfl⟩⟩
        · unfold encR at he
          rw [if_neg hE] at he
          refine Cl.of he ⟨_, _, _, _, _, rfl, ifB_intro (fun _ => ?_) (fun h2 => ?_)⟩
          · refine Q11 (fun hh => ?_)
            rw [(eq0 hh).2] at hE
            exact hE (encE_zero.2 (hg hh).1)
          · simp only [bor_f, ine_eq, Bool.not_eq_false', decide_eq_true_eq] at h2
            exact absurd h2.2 hE
    -- the first four numbers
    refine ⟨fun i rows a er n0 n1 n2 n3 => 0 ≤ i ∧ i ≤ 4 ∧ rows = bR b ∧ (0 ≤ n0 ∧ n0 ≤ 18446744073709551615) ∧ (0 ≤ n1 ∧ n1 ≤ 18446744073709551615) ∧ (0 ≤ n2 ∧ n2 ≤ 18446744073709551615) ∧ (0 ≤ n3 ∧ n3 ≤ 18446744073709551615) ∧
        (g → er = 0 ∧ 0 ≤ a ∧ (i = 0 → b.drop a.toNat = leb e0.k.toNat ++ (leb (e0.s - cs).toNat ++ (leb (e0.a - ca).toNat ++ (leb (plc l e0.c) ++ ((if plc l e0.c = 0 then leb e0.c.size ++ txB e0.c else []) ++ (numB e0 ++ []))))))
          ∧ (i = 1 → b.drop a.toNat = leb (e0.s - cs).toNat ++ (leb (e0.a - ca).toNat ++ (leb (plc l e0.c) ++ ((if plc l e0.c = 0 then leb e0.c.size ++ txB e0.c else []) ++ (numB e0 ++ [])))))
          ∧ (i = 2 → b.drop a.toNat = leb (e0.a - ca).toNat ++ (leb (plc l e0.c) ++ ((if plc l e0.c = 0 then leb e0.c.size ++ txB e0.c else []) ++ (numB e0 ++ []))))
          ∧ (i = 3 → b.drop a.toNat = leb (plc l e0.c) ++ ((if plc l e0.c = 0 then leb e0.c.size ++ txB e0.c else []) ++ (numB e0 ++ [])))
          ∧ (i = 4 → b.drop a.toNat = (if plc l e0.c = 0 then leb e0.c.size ++ txB e0.c else []) ++ (numB e0 ++ []))
          ∧ (1 ≤ i → n0 = e0.k) ∧ (2 ≤ i → n1 = e0.s - cs) ∧ (3 ≤ i → n2 = e0.a - ca) ∧ (4 ≤ i → n3 = plc l e0.c)),
      fun i _ _ _ _ _ _ _ => (4 - i).toNat, ⟨by omega, by omega, rfl, by omega, by omega, by omega, by omega, fun hh => ?_⟩, ?_⟩
    · obtain ⟨_, _, _, _, _, hd⟩ := G hh
      exact ⟨rfl, by omega, fun _ => by simpa using hd, fun h => by omega, fun h => by omega, fun h => by omega, fun h => by omega, fun h => by omega, fun h => by omega, fun h => by omega, fun h => by omega⟩
    rintro i rows a er n0 n1 n2 n3 ⟨i0, i4, rfl, r0, r1, r2, r3, hgo⟩
    refine ifB_intro (fun hi => ?_) (fun hi => ?_)
    · simp at hi
      have w : wadd IntKind.i64 i 1 = i + 1 := wadd_i64 (by omega) (by omega)
      refine Cl.ofQ (ruint_fn b a er hl hb) ?_
      rintro r ⟨a2, er2, n, rfl, ho⟩
      have hn0 := ho.n0
      have hn1 := ho.n1
      rw [w]
      refine ⟨_, _, _, _, rfl, ⟨i0, hi⟩, fun hi0 => ?_, fun hi0 => ?_, fun hi0 => ?_, fun hi0 => ?_, trivial⟩
      · refine ⟨rfl, ⟨by omega, by omega, rfl, ⟨hn0, hn1⟩, r1, r2, r3, fun hh => ?_⟩, mlt (by dsimp only; omega)⟩
        obtain ⟨g1, g2, d0, d1, d2, d3, d4, k0, k1, k2, k3⟩ := hgo hh
        obtain ⟨_, _, _, _, _, _⟩ := G hh
        obtain ⟨q1, q2, q3⟩ := ho.good g1 g2 _ _ (d0 hi0) (by omega)
        have hdm := drop_more g2 (d0 hi0)
        rw [← q1] at hdm
        exact ⟨q2, by omega, fun h => by omega, fun _ => hdm, fun h => by omega, fun h => by omega, fun h => by omega, fun _ => by omega, fun h => by omega, fun h => by omega, fun h => by omega⟩
      · refine ⟨rfl, ⟨by omega, by omega, rfl, r0, ⟨hn0, hn1⟩, r2, r3, fun hh => ?_⟩, mlt (by dsimp only; omega)⟩
        obtain ⟨g1, g2, d0, d1, d2, d3, d4, k0, k1, k2, k3⟩ := hgo hh
        obtain ⟨_, _, _, _, _, _⟩ := G hh
        obtain ⟨q1, q2, q3⟩ := ho.good g1 g2 _ _ (d1 hi0) (by omega)
        have hdm := drop_more g2 (d1 hi0)
        rw [← q1] at hdm
        exact ⟨q2, by omega, fun h => by omega, fun h => by omega, fun _ => hdm, fun h => by omega, fun h => by omega, fun _ => k0 (by omega), fun _ => by omega, fun h => by omega, fun h => by omega⟩
      · refine ⟨rfl, ⟨by omega, by omega, rfl, r0, r1, ⟨hn0, hn1⟩, r3, fun hh => ?_⟩, mlt (by dsimp only; omega)⟩
        obtain ⟨g1, g2, d0, d1, d2, d3, d4, k0, k1, k2, k3⟩ := hgo hh
        obtain ⟨_, _, _, _, _, _⟩ := G hh
        obtain ⟨q1, q2, q3⟩ := ho.good g1 g2 _ _ (d2 hi0) (by omega)
        have hdm := drop_more g2 (d2 hi0)
        rw [← q1] at hdm
        exact ⟨q2, by omega, fun h => by omega, fun h => by omega, fun h => by omega, fun _ => hdm, fun h => by omega, fun _ => k0 (by omega), fun _ => k1 (by omega), fun _ => by omega, fun h => by omega⟩
      · refine ⟨rfl, ⟨by omega, by omega, rfl, r0, r1, r2, ⟨hn0, hn1⟩, fun hh => ?_⟩, mlt (by dsimp only; omega)⟩
        obtain ⟨g1, g2, d0, d1, d2, d3, d4, k0, k1, k2, k3⟩ := hgo hh
        obtain ⟨_, _, _, _, _, _⟩ := G hh
        obtain ⟨q1, q2, q3⟩ := ho.good g1 g2 _ _ (d3 hi0) (by omega)
        have hdm := drop_more g2 (d3 hi0)
        rw [← q1] at hdm
        exact ⟨q2, by omega, fun h => by omega, fun h => by omega, fun h => by omega, fun h => by omega, fun _ => hdm, fun _ => k0 (by omega), fun _ => k1 (by omega), fun _ => k2 (by omega), fun _ => by omega⟩
    · simp at hi
      obtain rfl : i = 4 := by omega
      have G4 : g → er = 0 ∧ 0 ≤ a ∧ b.drop a.toNat = (if plc l e0.c = 0 then leb e0.c.size ++ txB e0.c else []) ++ (numB e0 ++ []) ∧ n0 = e0.k ∧ n1 = e0.s - cs ∧ n2 = e0.a - ca ∧ n3 = plc l e0.c := by
        intro hh
        obtain ⟨g1, g2, d0, d1, d2, d3, d4, k0, k1, k2, k3⟩ := hgo hh
        exact ⟨g1, g2, d4 rfl, k0 (by omega), k1 (by omega), k2 (by omega), k3 (by omega)⟩
      refine ifB_intro (fun h1 => ?_) (fun h1 => ?_)
      · simp at h1
        exact Q11 (fun hh => h1 (G4 hh).1)
      refine ifB_intro (fun h2 => ?_) (fun h2 => ?_)
      · simp at h2
        exact Q11 (fun hh => by have := G4 hh; have := G hh; omega)
      refine ifB_intro (fun h3 => ?_) (fun h3 => ?_)
      · simp at h3
        exact Q11 (fun hh => by have := G4 hh; have := G hh; omega)
      refine ifB_intro (fun h4 => ?_) (fun h4 => ?_)
      · simp at h4
        exact Q11 (fun hh => by have := G4 hh; have := G hh; omega)
      rw [rlen_nR, wcvU64 (by omega) (by omega)]
      refine ifB_intro (fun h5 => ?_) (fun h5 => ?_)
      · simp at h5
        exact Q11 (fun hh => by have := G4 hh; have := G hh; omega)
      simp at h1 h2 h3 h4 h5
      refine ifB_intro (fun h6 => ?_) (fun h6 => ?_)
      · simp at h6
        have w : wsub IntKind.u64 n3 1 = n3 - 1 := wrapU64 (by omega) (by omega)
        rw [w]
        refine ⟨⟨by omega, by omega⟩, _, rget_nR (by omega) (by omega), ?_⟩
        refine loop2 _ a er n0 n1 n2 rfl (by omega) (by omega) (by omega) (by omega) (by omega) (by omega) (fun hh => ?_) (fun hh => ?_)
        · obtain ⟨_, _, _, q4, q5, q6, q7⟩ := G4 hh
          refine ⟨?_, q4, q5, q6⟩
          rw [q7]
          exact nmAt_plc (by omega)
        · obtain ⟨q1, q2, q3, _, _, _, q7⟩ := G4 hh
          rw [if_neg (by omega)] at q3
          exact ⟨q1, q2, by simpa using q3⟩
      · simp at h6
        refine Cl.ofQ (rtext_fn b a er hl hb) ?_
        rintro r ⟨a5, er5, s, rfl, o5⟩
        refine ⟨_, _, _, _, rfl, ?_⟩
        have G5 : g → er5 = 0 ∧ s = e0.c ∧ 0 ≤ a5 ∧ b.drop a5.toNat = numB e0 ++ [] := by
          intro hh
          obtain ⟨ok, c, _⟩ := G hh
          obtain ⟨q1, q2, q3, _, _, _, q7⟩ := G4 hh
          have hp : plc l e0.c = 0 := by omega
          rw [if_pos hp, List.append_assoc] at q3
          obtain ⟨z1, z2, z3⟩ := o5.good q1 q2 _ _ q3 c.2.1.2
          have d1 := drop_more q2 q3
          have d2 := drop_more (by omega) d1
          rw [txB_len, ← z1] at d2
          exact ⟨z2, z3, by omega, d2⟩
        refine loop2 s a5 er5 n0 n1 n2 rfl (by omega) (by omega) (by omega) (by omega) (by omega) (by omega) (fun hh => ?_) (fun hh => ?_)
        · obtain ⟨_, _, _, q4, q5, q6, q7⟩ := G4 hh
          exact ⟨(G5 hh).2.1, q4, q5, q6⟩
        · exact ⟨(G5 hh).1, (G5 hh).2.2.1, (G5 hh).2.2.2⟩

end Go.Proofs.Ytpgahnnbpfeldaa.Cod
