/- Layer 7: the law CodecRow over plain data. -/
import Derived.Test.YtpgahnnbpfeldaaCodN3
namespace Go.Proofs.Ytpgahnnbpfeldaa.Cod
open Go Go.Px Go.Proofs
set_option maxRecDepth 100000
set_option linter.unusedVariables false

abbrev EvD.row (e : EvD) : List SV := [I e.s, I e.a, I e.k, S e.c, I e.x, I e.y, I e.z]
abbrev eR (es : List EvD) : List (List SV) := es.map EvD.row
def evAt (es : List EvD) (i : Int) : EvD := es.getD i.toNat ⟨0, 0, 0, ByteArray.empty, 0, 0, 0⟩
theorem rget_eR {es : List EvD} {i : Int} (h0 : 0 ≤ i) (h1 : i < es.length) : rget (eR es) i = (evAt es i).row := by
  have : i.toNat < es.length := by omega
  simp [rget, evAt, this]

theorem esame_fn (es : List EvD) (hl : es.length ≤ 1000000) : Ct Try.prog 36 {} [SL 7 (eR es), SL 7 (eR es)] (fun r => r = [B true]) := by
  refine esame_nf _ _ _ (ifB_intro (fun h => by simp at h) (fun _ => ?_))
  refine ⟨fun _ x => 0 ≤ x ∧ x ≤ es.length, fun _ x => (es.length - x).toNat, ⟨by omega, by omega⟩, ?_⟩
  rintro _ x ⟨h0, h1⟩
  refine ifB_intro (fun h => ?_) (fun h => rfl)
  simp at h
  have w : wadd IntKind.i64 x 1 = x + 1 := wadd_i64 (by omega) (by omega)
  refine ⟨⟨h0, by simpa using h⟩, _, _, _, _, _, _, _, rget_eR h0 h, ⟨h0, by simpa using h⟩, _, _, _, _, _, _, _, rget_eR h0 h, ?_⟩
  rw [w]
  exact ifB_intro (fun hb => by simp at hb) (fun _ => ⟨rfl, ⟨by omega, by omega⟩, mlt (by dsimp only; omega)⟩)

theorem enc_small {cs ca : Int} {l : List ByteArray} {e : EvD} (ok : EncOK cs ca l e) (hp : 0 < plc l e.c) : (encL cs ca l e).length ≤ 32 := by
  obtain ⟨c1, c2, c3, c4, c5⟩ := chkE_zero ok.chk
  have hcx := ctxB_iff.1 ok.ctx
  have hl := (rgtB_iff.1 hcx.2).1
  have hpl := plc_le (l := l) (s := e.c)
  have := ok.seq
  have := ok.time
  have b1 : (leb e.k.toNat).length ≤ 1 := leb_len 0 _ (by omega)
  have b2 : (leb (e.s - cs).toNat).length ≤ 5 := leb_len 4 _ (by
    have : (e.s - cs).toNat ≤ 4294967296 := by omega
    exact Nat.lt_of_le_of_lt this (by decide))
  have b3 : (leb (e.a - ca).toNat).length ≤ 6 := leb_len 5 _ (by
    have : (e.a - ca).toNat ≤ 1099511627776 := by omega
    exact Nat.lt_of_le_of_lt this (by decide))
  have b4 : (leb (plc l e.c)).length ≤ 1 := leb_len 0 _ (by omega)
  have b5 : (numB e).length ≤ 15 := by
    have hN := numI_range ok.chk
    have hlen3 : (numI e.k e.x e.y e.z).length ≤ 3 := by
      have := numI_len e.k e.x e.y e.z
      rcases many_cases e.k with h | h | h | h <;> omega
    unfold numB
    generalize numI e.k e.x e.y e.z = ns at hN hlen3
    have key : ∀ ns : List Int, (∀ n ∈ ns, 0 ≤ n ∧ n ≤ 2147483647) → (ns.flatMap fun n => leb n.toNat).length ≤ 5 * ns.length := by
      intro ns
      induction ns with
      | nil => intro _; simp
      | cons n ns ih =>
        intro h
        have h1 := ih (fun m hm => h m (by simp [hm]))
        have h2 := h n (by simp)
        have h3 : (leb n.toNat).length ≤ 5 := leb_len 4 _ (by
          have : n.toNat ≤ 2147483647 := by omega
          exact Nat.lt_of_le_of_lt this (by decide))
        simp only [List.flatMap_cons, List.length_append, List.length_cons]
        omega
    have := key ns hN
    omega
  unfold encL
  rw [if_neg (by omega)]
  simp only [List.length_append, List.length_nil]
  omega

theorem enc_long {cs ca : Int} {l : List ByteArray} {e : EvD} (hp : plc l e.c = 0) : e.c.size ≤ (encL cs ca l e).length := by
  unfold encL
  rw [if_pos hp]
  simp only [List.length_append, txB_len]
  omega

theorem bhd_small {cs ca : Int} {l : List ByteArray} {e : EvD} (ok : EncOK cs ca l e) : (bhdN l e.c).length ≤ 32 := by
  have hl := (rgtB_iff.1 (ctxB_iff.1 ok.ctx).2).1
  unfold bhdN
  split
  · rename_i hp
    have h := ok.put hp
    unfold putN at h
    split at h
    · simp at h
    · split at h
      · simp at h
      · split at h
        · simp at h
        · split at h
          · simp at h
          · simp; omega
  · exact hl

theorem enc_cap {cs ca : Int} {l : List ByteArray} {e : EvD} (ok : EncOK cs ca l e) : (encL cs ca l e).length ≤ 1000 := by
  obtain ⟨w1, w2, w3, w4, w5, b1, b2, b3, b4⟩ := put4 (g := 0) putUint_fn ok
  obtain ⟨c1, c2, c3, c4, c5⟩ := chkE_zero ok.chk
  by_cases hp : 0 < plc l e.c
  · have := enc_small ok hp; omega
  · have hp : plc l e.c = 0 := by omega
    have hbs : (leb e.c.size).length ≤ 10 := leb_small (by omega)
    have hN := numI_range ok.chk
    have hlen3 : (numI e.k e.x e.y e.z).length ≤ 3 := by
      have := numI_len e.k e.x e.y e.z
      rcases many_cases e.k with h | h | h | h <;> omega
    have key : ∀ ns : List Int, (∀ n ∈ ns, 0 ≤ n ∧ n ≤ 2147483647) → (ns.flatMap fun n => leb n.toNat).length ≤ 10 * ns.length := by
      intro ns
      induction ns with
      | nil => intro _; simp
      | cons n ns ih =>
        intro h
        have h1 := ih (fun m hm => h m (by simp [hm]))
        have h2 := h n (by simp)
        have h3 : (leb n.toNat).length ≤ 10 := leb_small (by omega)
        simp only [List.flatMap_cons, List.length_append, List.length_cons]
        omega
    have := key _ hN
    unfold encL numB
    rw [if_pos hp]
    simp only [List.length_append, txB_len]
    omega

theorem law7_fn (es : List EvD) (hl : es.length ≤ 9223372036854775807) : Ct Try.prog 7 {} [SL 7 (eR es)] (fun r => r = [B true]) := by
  refine law7_nf _ _ (Cl.of cawake_fn ⟨_, rfl, ifB_intro (fun h => by simp at h) (fun _ => ?_)⟩)
  refine ifB_intro (fun _ => rfl) (fun h40 => ?_)
  simp at h40
  refine ⟨fun l l1 x x1 x2 l2 x3 x4 l3 => 0 ≤ x ∧ x ≤ es.length ∧ l1 = l ∧ x3 = x1 ∧ x4 = x2 ∧ l3 = l2 ∧ (∃ nm : List ByteArray, l2 = nR nm ∧ nm.length ≤ 32) ∧ ∃ ks : List EvD, l = eR ks ∧ (ks.length : Int) ≤ x,
    fun _ _ x _ _ _ _ _ _ => (es.length - x).toNat, ⟨by omega, by omega, rfl, rfl, rfl, rfl, ⟨[], rfl, by simp⟩, [], rfl, by simp⟩, ?_⟩
  rintro _ _ x _ _ _ cs ca _ ⟨h0, h1, rfl, rfl, rfl, rfl, ⟨nm, rfl, hnm⟩, ks, rfl, hks⟩
  refine ifB_intro (fun hx => ?_) (fun hx => ?_)
  · simp at hx
    have hin : ((0 : Int) ≤ x) ∧ (x < rlen (eR es)) := ⟨h0, by simpa using hx⟩
    have w : wadd IntKind.i64 x 1 = x + 1 := wadd_i64 (by omega) (by omega)
    have hget := rget_eR h0 hx
    generalize evAt es x = e at hget
    refine ⟨hin, _, _, _, _, _, _, _, hget, ifB_intro (fun _ => rfl) (fun hc => ?_)⟩
    refine ⟨hin, _, _, _, _, _, _, _, hget, dup ?_⟩
    have he := encode_fn cs ca nm e
    rw [w]
    by_cases hE : encE cs ca nm e = 0
    · have ok := encE_zero.1 hE
      unfold encR at he
      rw [if_pos hE] at he
      have hcap := enc_cap ok
      refine Cl.of he ⟨_, _, _, _, _, rfl, ifB_intro (fun h => by simp at h) (fun _ => ?_)⟩
      refine ⟨hin, _, _, _, _, _, _, _, hget, Cl.of (rplace_fn nm e.c (by omega)) ⟨_, rfl, ifB_intro (fun h => ?_) (fun h => ?_)⟩⟩
      · simp at h
        have := enc_small ok (by omega)
        omega
      · refine ifB_intro (fun h2 => ?_) (fun h2 => ?_)
        · simp at h2
          refine ⟨hin, _, _, _, _, _, _, _, hget, ifB_intro (fun h3 => ?_) (fun h3 => ?_)⟩
          · simp at h3
            have := enc_long (cs := cs) (ca := ca) (l := nm) (e := e) (by omega)
            omega
          · refine ⟨hin, _, _, _, _, _, _, _, hget, by simp; omega, ?_⟩
            refine Cl.ofQ (decode_fn cs ca nm _ (by omega) byts_enc) ?_
            intro r hr
            have := hr.own ok
            subst this
            refine ⟨_, _, _, _, _, _, _, _, _, _, _, rfl, ifB_intro (fun h => by simp at h) (fun _ => ⟨by simp; omega, rfl, ⟨by omega, by omega, rfl, rfl, rfl, rfl, ⟨_, rfl, bhd_small ok⟩, ks ++ [e], by simp [rapp], by simp; omega⟩, mlt (by dsimp only; omega)⟩)⟩
        · refine ifB_intro (fun h3 => by simp at h3) (fun _ => ?_)
          refine ⟨hin, _, _, _, _, _, _, _, hget, by simp; omega, ?_⟩
          refine Cl.ofQ (decode_fn cs ca nm _ (by omega) byts_enc) ?_
          intro r hr
          have := hr.own ok
          subst this
          refine ⟨_, _, _, _, _, _, _, _, _, _, _, rfl, ifB_intro (fun h => by simp at h) (fun _ => ⟨by simp; omega, rfl, ⟨by omega, by omega, rfl, rfl, rfl, rfl, ⟨_, rfl, bhd_small ok⟩, ks ++ [e], by simp [rapp], by simp; omega⟩, mlt (by dsimp only; omega)⟩)⟩
    · unfold encR at he
      rw [if_neg hE] at he
      refine Cl.of he ⟨_, _, _, _, _, rfl, ifB_intro (fun _ => ?_) (fun h => by simp at h; exact absurd h hE)⟩
      refine ifB_intro (fun h => by simp at h) (fun _ => ?_)
      refine Cl.of (csame_fn cs ca nm cs ca nm (by omega)) ⟨_, rfl, ifB_intro (fun h => by simp at h) (fun _ => ?_)⟩
      exact ⟨rfl, ⟨by omega, by omega, rfl, rfl, rfl, rfl, ⟨_, rfl, hnm⟩, ks, rfl, by omega⟩, mlt (by dsimp only; omega)⟩
  · refine Cl.of (esame_fn ks (by omega)) ⟨_, rfl, ifB_intro (fun _ => ?_) (fun h => by simp at h)⟩
    exact Cl.of (csame_fn cs ca nm cs ca nm (by omega)) ⟨_, rfl, by simp⟩

end Go.Proofs.Ytpgahnnbpfeldaa.Cod
