/- Layer 7: the document's encoding; bytes are those of at most one event. -/
import Derived.Test.YtbocfphenkidnaaDoorCod5
namespace Go.Proofs.YtbocfphenkidnaaDoor.Cod
open Go Go.Px Go.Proofs
set_option maxRecDepth 100000
set_option linter.unusedVariables false

def bhdR (cs ca : Int) (l : List ByteArray) (e : EvD) : List SV :=
  if encE cs ca l e = 0 then [cx3 e.s e.a (nR (bhdN l e.c)), I 0] else [cx3 cs ca (nR l), I (encE cs ca l e)]

theorem bhdR_bad {cs ca : Int} {l : List ByteArray} {e : EvD} {n : Int} (h : encE cs ca l e = n) (hn : n ≠ 0) : [cx3 cs ca (nR l), I n] = bhdR cs ca l e := by
  unfold bhdR; rw [h, if_neg hn]

theorem flat_inj : ∀ (ns ms : List Int) (r r' : List Int), ns.length = ms.length → (∀ n ∈ ns, 0 ≤ n) → (∀ n ∈ ms, 0 ≤ n) → ns.flatMap (fun n => leb n.toNat) ++ r = ms.flatMap (fun n => leb n.toNat) ++ r' → ns = ms ∧ r = r'
  | [], [], r, r', _, _, _, h => ⟨rfl, by simpa using h⟩
  | n :: ns, m :: ms, r, r', hl, hn, hm, h => by
    simp only [List.flatMap_cons, List.append_assoc] at h
    obtain ⟨h1, h2⟩ := leb_inj _ _ _ _ h
    obtain ⟨h3, h4⟩ := flat_inj ns ms r r' (by simpa using hl) (fun x hx => hn x (by simp [hx])) (fun x hx => hm x (by simp [hx])) h2
    have a1 := hn n (by simp)
    have a2 := hm m (by simp)
    exact ⟨by rw [h3, show n = m by omega], h4⟩
  | [], _ :: _, _, _, hl, _, _, _ => by simp at hl
  | _ :: _, [], _, _, hl, _, _, _ => by simp at hl

theorem tx_inj {s t : ByteArray} (h : txB s = txB t) : s = t := by
  have := congrArg (fun l => bstr (bR l)) h
  simpa [bstr_tx] using this

/-- The numbers that a kind hasn't are 0. -/
theorem fill_nums {e : EvD} (h : chkE e = 0) : nAt (numL e.k e.x e.y e.z) 0 = e.x ∧ nAt (numL e.k e.x e.y e.z) 1 = e.y ∧ nAt (numL e.k e.x e.y e.z) 2 = e.z := by
  obtain ⟨c1, _, hv, _, _⟩ := chkE_zero h
  have c1 : manyI e.k ≠ 0 := fun hh => by have := (many0 _).1 hh; omega
  rcases many_cases e.k with h | h | h | h
  · exact absurd h c1
  · have e' : numL e.k e.x e.y e.z = [[I e.x]] := by unfold numL; rw [h]; rfl
    have := many1 h
    rw [e']
    exact ⟨rfl, by simp [nAt]; omega, by simp [nAt]; omega⟩
  · have e' : numL e.k e.x e.y e.z = [[I e.x], [I e.y]] := by unfold numL; rw [h]; rfl
    have := many2 h
    rw [e']
    exact ⟨rfl, rfl, by simp [nAt]; omega⟩
  · have e' : numL e.k e.x e.y e.z = [[I e.x], [I e.y], [I e.z]] := by unfold numL; rw [h]; rfl
    rw [e']
    exact ⟨rfl, rfl, rfl⟩

theorem enc_inj {cs ca : Int} {l : List ByteArray} {e e' : EvD} {r r' : List Int} (h : EncOK cs ca l e) (h' : EncOK cs ca l e') (he : encL cs ca l e ++ r = encL cs ca l e' ++ r') : e = e' ∧ r = r' := by
  obtain ⟨c1, c2, c3, c4, c5⟩ := chkE_zero h.chk
  obtain ⟨d1, d2, d3, d4, d5⟩ := chkE_zero h'.chk
  have := h.seq; have := h.time; have := h'.seq; have := h'.time
  unfold encL at he
  simp only [List.append_assoc] at he
  obtain ⟨g1, he⟩ := leb_inj _ _ _ _ he
  obtain ⟨g2, he⟩ := leb_inj _ _ _ _ he
  obtain ⟨g3, he⟩ := leb_inj _ _ _ _ he
  obtain ⟨g4, he⟩ := leb_inj _ _ _ _ he
  have hk : e.k = e'.k := by omega
  have key : e.c = e'.c ∧ numB e ++ r = numB e' ++ r' := by
    by_cases hp : plc l e.c = 0
    · have hp' : plc l e'.c = 0 := by omega
      rw [if_pos hp, if_pos hp'] at he
      simp only [List.append_assoc] at he
      obtain ⟨g5, he⟩ := leb_inj _ _ _ _ he
      have hlen : (txB e.c).length = (txB e'.c).length := by rw [txB_len, txB_len, g5]
      obtain ⟨g6, g7⟩ := List.append_inj he hlen
      exact ⟨tx_inj g6, g7⟩
    · have hp' : ¬ plc l e'.c = 0 := by omega
      rw [if_neg hp, if_neg hp'] at he
      obtain ⟨i, hi⟩ : ∃ i, plc l e.c = i + 1 := ⟨plc l e.c - 1, by omega⟩
      have a1 := plc_at hi
      have a2 := plc_at (g4 ▸ hi)
      rw [a1] at a2
      exact ⟨by injection a2, by simpa using he⟩
  obtain ⟨kc, kn⟩ := key
  have hl : (numI e.k e.x e.y e.z).length = (numI e'.k e'.x e'.y e'.z).length := by
    have a1 := numI_len e.k e.x e.y e.z
    have a2 := numI_len e'.k e'.x e'.y e'.z
    rw [hk] at a1
    rw [hk]; omega
  obtain ⟨kn, kr⟩ := flat_inj _ _ _ _ hl (fun n hn => (numI_range h.chk n hn).1) (fun n hn => (numI_range h'.chk n hn).1) kn
  have f1 := fill_nums h.chk
  have f2 := fill_nums h'.chk
  rw [numL_numI] at f1 f2
  rw [kn] at f1
  have ex : e.x = e'.x := f1.1.symm.trans f2.1
  have ey : e.y = e'.y := f1.2.1.symm.trans f2.2.1
  have ez : e.z = e'.z := f1.2.2.symm.trans f2.2.2
  refine ⟨?_, kr⟩
  cases e; cases e'
  simp only at *
  simp only [EvD.mk.injEq]
  exact ⟨by omega, by omega, hk, kc, ex, ey, ez⟩

abbrev ev0 : SV := ev7 0 0 0 (ByteArray.mk (Array.mk [])) 0 0 0

/-- What decoding comes to. -/
def DOut (cs ca : Int) (l : List ByteArray) (b : List Int) (r : List SV) : Prop :=
  (ctxB cs ca l = false ∧ r = [ev0, cx3 cs ca (nR l), I 1]) ∨ (ctxB cs ca l = true ∧ ((∃ e, EncOK cs ca l e ∧ encL cs ca l e = b ∧ r = [e.sv, cx3 e.s e.a (nR (bhdN l e.c)), I 0]) ∨ ((∀ e, EncOK cs ca l e → encL cs ca l e ≠ b) ∧ r = [ev0, cx3 cs ca (nR l), I 11])))

theorem DOut.none {cs ca : Int} {l : List ByteArray} {b : List Int} (hc : ctxB cs ca l = true) (h : ∀ e, EncOK cs ca l e → encL cs ca l e ≠ b) : DOut cs ca l b [ev0, cx3 cs ca (nR l), I 11] := .inr ⟨hc, .inr ⟨h, rfl⟩⟩

abbrev iR (l : List Int) : List (List SV) := l.map fun n => [I n]
theorem ints_iR (l : List Int) : Ints (iR l) := by
  intro r hr
  obtain ⟨n, _, rfl⟩ := List.mem_map.1 hr
  exact ⟨n, rfl⟩

/-- The numbers of an event are read. -/
theorem rd_loop {b : List Int} (hl : b.length ≤ 100000) (hb : Byts b) {g : Prop} {ns rest : List Int} (hns : ∀ n ∈ ns, 0 ≤ n ∧ n ≤ 2147483647) {cnt a0 er0 : Int} (hc0 : 0 ≤ cnt) (hc3 : cnt ≤ 3) (hcnt : g → cnt = ns.length)
    (hg : g → er0 = 0 ∧ 0 ≤ a0 ∧ b.drop a0.toNat = ns.flatMap (fun n => leb n.toNat) ++ rest) {FX : Prop} (hFX : FX) {K : List (List SV) → Int → Prop} (hK : ∀ ms er, (g → ms = ns ∧ er = 0) → K (iR ms) er) :
    ∃ Inv : (List (List SV)) → Int → (List (List SV)) → Int → Int → Prop, ∃ m : (List (List SV)) → Int → (List (List SV)) → Int → Int → Nat, (Inv [] 0 (bR b) a0 er0) ∧ (∀ l6 : List (List SV), ∀ x17 : Int, ∀ l7 : List (List SV), ∀ x18 : Int, ∀ x19 : Int, (Inv l6 x17 l7 x18 x19) → ifB (ilt x17 cnt) (Cl Tryd.prog 90 sP ([SV.agg [SL 1 l7, I x18, I x19], U64 2147483647]) (fun (rs7 : List SV) => ∃ l8 : List (List SV), ∃ x20 : Int, ∃ x21 : Int, ∃ x22 : Int, (rs7 = [SV.agg [SL 1 l8, I x20, I x21], I x22]) ∧ (((lsum (rlen l6) (rlen ([[I x22]]))) ≤ ((2147483648 : Int))) ∧ (FX ∧ ((Inv (rapp l6 ([[I x22]])) (wadd IntKind.i64 x17 1) l8 x20 x21) ∧ (Nat.le (Nat.succ (m (rapp l6 ([[I x22]])) (wadd IntKind.i64 x17 1) l8 x20 x21)) (m l6 x17 l7 x18 x19))))))) (K l6 x19)) := by
  refine ⟨fun rows x l7 a er => 0 ≤ x ∧ x ≤ cnt ∧ l7 = bR b ∧ ∃ ms : List Int, rows = iR ms ∧ (ms.length : Int) = x ∧ (g → er = 0 ∧ 0 ≤ a ∧ ms = ns.take x.toNat ∧ b.drop a.toNat = (ns.drop x.toNat).flatMap (fun n => leb n.toNat) ++ rest), fun _ x _ _ _ => (cnt - x).toNat, ⟨by omega, by omega, rfl, [], rfl, rfl, fun h => by simpa using hg h⟩, ?_⟩
  rintro rows x l7 a er ⟨h0, h1, rfl, ms, rfl, hml, hgo⟩
  refine ifB_intro (fun h => ?_) (fun h => ?_)
  · simp at h
    have w : wadd IntKind.i64 x 1 = x + 1 := wadd_i64 (by omega) (by omega)
    refine Cl.ofQ (upTo_fn b a er 2147483647 hl hb (by omega) (by omega)) ?_
    rintro r ⟨a', er', n, rfl, ho⟩
    rw [w]
    refine ⟨_, _, _, _, rfl, by simp; omega, hFX, ⟨by omega, by omega, rfl, ms ++ [n], by simp [rapp], by simp; omega, fun hh => ?_⟩, mlt (by dsimp only; omega)⟩
    obtain ⟨g1, g2, g3, g4⟩ := hgo hh
    have hx : x.toNat < ns.length := by have := hcnt hh; omega
    rw [List.drop_eq_getElem_cons hx, List.flatMap_cons, List.append_assoc] at g4
    have hr := hns ns[x.toNat] (List.getElem_mem hx)
    obtain ⟨q1, q2, q3⟩ := ho.good g1 g2 _ _ g4 (by omega)
    have hd := drop_more g2 g4
    refine ⟨q2, by omega, ?_, ?_⟩
    · rw [show (x + 1).toNat = x.toNat + 1 by omega, List.take_add_one, List.getElem?_eq_getElem hx, g3, q3]
      have : ((ns[x.toNat].toNat : Nat) : Int) = ns[x.toNat] := by omega
      rw [this]; rfl
    · rw [q1, hd, show (x + 1).toNat = x.toNat + 1 by omega]
  · simp at h
    refine hK ms er (fun hh => ?_)
    obtain ⟨g1, g2, g3, g4⟩ := hgo hh
    refine ⟨?_, g1⟩
    rw [g3, List.take_of_length_le (by have := hcnt hh; omega)]

end Go.Proofs.YtbocfphenkidnaaDoor.Cod
