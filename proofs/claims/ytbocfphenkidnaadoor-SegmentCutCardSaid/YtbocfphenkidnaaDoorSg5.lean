/- Layer 9: what is made: records, seals, segments. -/
import Derived.Test.YtbocfphenkidnaaDoorSg4
namespace Go.Proofs.YtbocfphenkidnaaDoor.Seg
open Go Go.Px Go.Proofs Go.Proofs.YtbocfphenkidnaaDoor.Cod
set_option maxRecDepth 100000
set_option linter.unusedVariables false

theorem bhd_small {cs ca : Int} {l : List ByteArray} {e : EvD} (ok : EncOK cs ca l e) : (bhdN l e.c).length ≤ 32 := by
  have hl := (rgtB_iff.1 (ctxB_iff.1 ok.ctx).2).1
  unfold bhdN
  split
  · rename_i h
    have h2 := ok.put h
    unfold putN at h2
    have : l.length ≠ 32 := fun e => by
      rw [if_neg (by simp [(ctxB_iff.1 ok.ctx).2])] at h2
      split at h2
      · simp at h2
      · rw [if_neg (by omega)] at h2
        simp at h2
    simp; omega
  · exact hl

theorem bhd_right {cs ca : Int} {l : List ByteArray} {e : EvD} (ok : EncOK cs ca l e) : ctxB e.s e.a (bhdN l e.c) = true := by
  obtain ⟨c1, c2, c3, c4, c5⟩ := chkE_zero ok.chk
  have hr := rgtB_iff.1 (ctxB_iff.1 ok.ctx).2
  refine ctxB_iff.2 ⟨by omega, rgtB_iff.2 ⟨bhd_small ok, ?_, ?_⟩⟩
  · intro s hs
    unfold bhdN at hs
    split at hs
    · rcases List.mem_append.1 hs with hs | hs
      · exact hr.2.1 s hs
      · simp at hs; subst hs; simp [nmB]; omega
    · exact hr.2.1 s hs
  · unfold bhdN
    split
    · rename_i hp
      rw [List.nodup_append]
      refine ⟨hr.2.2, by simp, fun x hx y hy => ?_⟩
      simp at hy
      subst hy
      intro e'
      subst e'
      exact plc_zero.1 hp hx
    · exact hr.2.2

theorem okL_right : ∀ (l : List EvD) (s a : Int) (m : List ByteArray), ctxB s a m = true → okL s a m l → ctxB (fin3 s a m l).1 (fin3 s a m l).2.1 (fin3 s a m l).2.2 = true
  | [], _, _, _, h, _ => h
  | e :: l, s, a, m, h, ⟨h1, h2⟩ => okL_right l e.s e.a (bhdN m e.c) (bhd_right h1) h2

theorem numB_len {e : EvD} (h : chkE e = 0) : (numB e).length ≤ 30 := by
  have hr := numI_range h
  have hl : (numI e.k e.x e.y e.z).length ≤ 3 := by unfold numI; simp; omega
  unfold numB
  have : ∀ l : List Int, (∀ n ∈ l, 0 ≤ n ∧ n ≤ 2147483647) → (l.flatMap fun n => leb n.toNat).length ≤ 10 * l.length := by
    intro l
    induction l with
    | nil => intro _; simp
    | cons x l ih =>
      intro h
      have h1 := ih fun n hn => h n (by simp [hn])
      have h2 := h x (by simp)
      have h3 : (leb x.toNat).length ≤ 10 := leb_small (by omega)
      simp only [List.flatMap_cons, List.length_append, List.length_cons]
      omega
  have := this _ hr
  omega

theorem encL_len {cs ca : Int} {l : List ByteArray} {e : EvD} (ok : EncOK cs ca l e) : (encL cs ca l e).length ≤ 120 := by
  obtain ⟨h1, h2, h3, h4, h5⟩ := chkE_zero ok.chk
  have hc := ctxB_iff.1 ok.ctx
  have hl := (rgtB_iff.1 hc.2).1
  have hp := plc_le (l := l) (s := e.c)
  have b1 : (leb e.k.toNat).length ≤ 10 := leb_small (by omega)
  have b2 : (leb (e.s - cs).toNat).length ≤ 10 := leb_small (by omega)
  have b3 : (leb (e.a - ca).toNat).length ≤ 10 := leb_small (by omega)
  have b4 : (leb (plc l e.c)).length ≤ 10 := leb_small (by omega)
  have b5 : (leb e.c.size).length ≤ 10 := leb_small (by omega)
  have b6 := numB_len ok.chk
  have b7 : (txB e.c).length = e.c.size := by simp [txB]
  unfold encL
  simp only [List.length_append]
  have b8 : (if plc l e.c = 0 then leb e.c.size ++ txB e.c else []).length ≤ 34 := by
    split
    · rw [List.length_append]; omega
    · simp
  omega

theorem sadd_fn (s a : Int) (m : List ByteArray) (e : EvD) : Ct Tryd.prog 15 {} [cx3 s a (nR m), e.sv] (fun r =>
    (EncOK s a m e ∧ r = [SL 1 (bR (fr 2 (encL s a m e))), cx3 e.s e.a (nR (bhdN m e.c)), I 0]) ∨ (¬ EncOK s a m e ∧ ∃ n, n ≠ 0 ∧ r = [SL 1 [], cx3 s a (nR m), I n])) := by
  have he := encode_fn s a m e
  refine sadd_nf _ _ _ _ _ _ _ _ _ _ _ ?_
  by_cases hE : encE s a m e = 0
  · have ok := encE_zero.1 hE
    have hl := encL_len ok
    unfold encR at he
    rw [if_pos hE] at he
    refine Cl.of he ⟨_, _, _, _, _, rfl, ifB_intro (fun h2 => by simp at h2) (fun _ => ?_)⟩
    have hf := fput_fn 2 _ (byts_enc (cs := s) (ca := a) (l := m) (e := e)) (by omega)
    have : putF 2 (encL s a m e) = (fr 2 (encL s a m e), 0) := by unfold putF; rw [if_neg (by omega), if_neg (by omega)]
    rw [this] at hf
    exact Cl.of hf ⟨_, _, rfl, ifB_intro (fun h2 => by simp at h2) (fun _ => .inl ⟨ok, rfl⟩)⟩
  · unfold encR at he
    rw [if_neg hE] at he
    exact Cl.of he ⟨_, _, _, _, _, rfl, ifB_intro (fun _ => .inr ⟨fun ok => hE (encE_zero.2 ok), _, hE, rfl⟩) (fun h2 => by simp at h2; exact absurd h2 hE)⟩

theorem sseal_fn (n s a : Int) (m : List ByteArray) (h0 : 0 ≤ n) (h1 : n ≤ 9223372036854775807) : Ct Tryd.prog 16 {} [I n, cx3 s a (nR m)] (fun r =>
    r = if ctxB s a m = true then [SL 1 (bR (fr 3 (slP n s a))), I 0] else [SL 1 [], I 1]) := by
  refine sseal_nf _ _ _ _ _ (ifB_intro (fun h => by simp at h; omega) (fun _ => Cl.of (cright_fn s a m) ⟨_, rfl, ifB_intro (fun h => ?_) (fun h => ?_)⟩))
  · simp at h
    rw [if_neg (by simp [h])]
  · simp at h
    rw [if_pos h]
    have hc := (ctxB_iff.1 h).1
    refine Cl.of (sput_fn [] n s a (nR m) (by omega) (by omega) (by omega) (by simp)) ⟨_, rfl, ?_⟩
    have b1 : (leb n.toNat).length ≤ 10 := leb_small (by omega)
    have b2 : (leb s.toNat).length ≤ 10 := leb_small (by omega)
    have b3 : (leb a.toNat).length ≤ 10 := leb_small (by omega)
    have hb : Byts (slP n s a) := Byts.app (byts_leb _) ((byts_leb _).app (byts_leb _))
    have hl : (slP n s a).length ≤ 30 := by simp [slP]; omega
    have hf := fput_fn 3 (slP n s a) hb (by omega)
    have : putF 3 (slP n s a) = (fr 3 (slP n s a), 0) := by unfold putF; rw [if_neg (by omega), if_neg (by omega)]
    rw [this] at hf
    exact Cl.of hf ⟨_, _, rfl, rfl⟩

def mkOK (n s a : Int) (m : List ByteArray) (l : List EvD) : Prop := headOK n s a ∧ m = [] ∧ okL s a [] l
def mkS (n s a : Int) (l : List EvD) (sl : Bool) : Sc := ⟨n, s, a, l, (fin3 s a [] l).1, (fin3 s a [] l).2.1, (fin3 s a [] l).2.2, sl⟩

theorem recL_len2 : ∀ (l : List EvD) (s a : Int) (m : List ByteArray), okL s a m l → (recL s a m l).length ≤ 127 * l.length
  | [], _, _, _, _ => by simp [recL]
  | x :: l, s, a, m, ⟨h1, h2⟩ => by
    have := recL_len2 l x.s x.a (bhdN m x.c) h2
    have := encL_len h1
    simp only [recL, List.length_append, fr_len, List.length_cons]
    omega

theorem segL_mk {n s a : Int} {l : List EvD} {sl : Bool} (hn : n ≠ 0) : segL (mkS n s a l sl) = fr 1 (hdP n s a) ++ (recL s a [] l ++ (if sl = true then fr 3 (slP l.length (fin3 s a [] l).1 (fin3 s a [] l).2.1) else [])) := by
  unfold segL; rw [if_neg (show (mkS n s a l sl).num ≠ 0 from hn)]; rfl

theorem okL_take {s a : Int} {m : List ByteArray} : ∀ {l : List EvD} {i : Nat}, (h : i < l.length) → okL s a m l → EncOK (fin3 s a m (l.take i)).1 (fin3 s a m (l.take i)).2.1 (fin3 s a m (l.take i)).2.2 l[i] := by
  intro l i h ok
  have h1 : l = l.take i ++ (l[i] :: l.drop (i + 1)) := by simp
  rw [h1] at ok
  have : ∀ (p q : List EvD) (s a : Int) (m : List ByteArray), okL s a m (p ++ q) → okL (fin3 s a m p).1 (fin3 s a m p).2.1 (fin3 s a m p).2.2 q := by
    intro p
    induction p with
    | nil => intro q s a m h; exact h
    | cons x p ih => intro q s a m h; exact ih q x.s x.a _ h.2
  exact (this _ _ _ _ _ ok).1

theorem smake_fn (n s a : Int) (m : List ByteArray) (l : List EvD) (sl : Bool) (hm : m.length ≤ 9223372036854775807) (hl : l.length ≤ 100000) : Ct Tryd.prog 7 {} [I n, cx3 s a (nR m), SL 7 (evR l), B sl] (fun r =>
    (mkOK n s a m l ∧ r = [SL 1 (bR (segL (mkS n s a l sl))), I 0]) ∨ (¬ mkOK n s a m l ∧ ∃ x, x ≠ 0 ∧ r = [SL 1 [], I x])) := by
  have hrl : rlen (evR l) = l.length := by simp [rlen]
  refine smake_nf _ _ _ _ _ _ _ (Cl.of (shead_fn n s a m hm) ⟨_, _, rfl, ?_⟩)
  by_cases hh : headOK n s a ∧ m = []
  rotate_left
  · have : (headE n s a m).2 = 1 := by
      unfold headE
      split
      · rfl
      · rename_i h1
        rw [if_pos]
        rintro ⟨h2, h3⟩
        exact hh ⟨⟨by omega, h2⟩, h3⟩
    rw [this]
    exact ifB_intro (fun _ => .inr ⟨fun h => hh ⟨h.1, h.2.1⟩, 1, by omega, rfl⟩) (fun h => by simp at h)
  obtain ⟨hok, rfl⟩ := hh
  have he : headE n s a [] = (fr 1 (hdP n s a), 0) := by
    unfold headE
    rw [if_neg (by simp; exact hok.1), if_neg (by simp; exact hok.2)]
  rw [he, hrl]
  have hok1 := hok
  unfold headOK ctxOK at hok1
  have hn0 : n ≠ 0 := by omega
  have hhl := hdP_len (n := n) (s := s) (a := a) (by omega) (by omega) (by omega)
  have hfl : (fr 1 (hdP n s a)).length ≤ 41 := by rw [fr_len]; omega
  refine ifB_intro (fun h => by simp at h) (fun _ => ?_)
  refine ⟨fun q i x y z => 0 ≤ i ∧ i ≤ l.length ∧ okL s a [] (l.take i.toNat) ∧ q = bR (fr 1 (hdP n s a) ++ recL s a [] (l.take i.toNat)) ∧ (x, y, z) = ((fin3 s a [] (l.take i.toNat)).1, (fin3 s a [] (l.take i.toNat)).2.1, nR (fin3 s a [] (l.take i.toNat)).2.2),
    fun _ i _ _ _ => (l.length - i).toNat, ⟨by omega, by omega, trivial, by simp [recL], rfl⟩, ?_⟩
  rintro _ i x y z ⟨i0, i1, ok, rfl, hz⟩
  simp only [Prod.mk.injEq] at hz
  obtain ⟨rfl, rfl, rfl⟩ := hz
  have hrc := recL_len2 _ _ _ _ ok
  have htl : (l.take i.toNat).length ≤ 100000 := by simp; omega
  refine ifB_intro (fun h => ?_) (fun h => ?_)
  · simp at h
    have hlt : i.toNat < l.length := by omega
    have w : wadd IntKind.i64 i 1 = i + 1 := wadd_i64 (by omega) (by omega)
    rw [w]
    refine ⟨⟨i0, h⟩, l[i.toNat].s, l[i.toNat].a, l[i.toNat].k, l[i.toNat].c, l[i.toNat].x, l[i.toNat].y, l[i.toNat].z, ?_, ?_⟩
    · simp [rget, hlt]
    refine Cl.ofQ (sadd_fn _ _ _ l[i.toNat]) ?_
    rintro r (⟨h1, rfl⟩ | ⟨h1, x, hx, rfl⟩)
    · refine ⟨_, _, _, _, _, rfl, ifB_intro (fun h => by simp at h) (fun _ => ?_)⟩
      have hx := encL_len h1
      refine ⟨?_, rfl, ⟨by omega, by omega, ?_, ?_, ?_⟩, ?_⟩
      · simp [lsum, rlen, fr_len]; omega
      · rw [show (i + 1).toNat = i.toNat + 1 by omega, List.take_succ_eq_append_getElem hlt, okL_snoc]
        exact ⟨ok, h1⟩
      · rw [show (i + 1).toNat = i.toNat + 1 by omega, List.take_succ_eq_append_getElem hlt, recL_snoc]
        simp [rapp]
      · rw [show (i + 1).toNat = i.toNat + 1 by omega, List.take_succ_eq_append_getElem hlt, fin3_snoc]
      · show Nat.succ (l.length - (i + 1)).toNat ≤ (l.length - i).toNat; omega
    · refine ⟨_, _, _, _, _, rfl, ifB_intro (fun _ => .inr ⟨fun hk => h1 ?_, x, hx, rfl⟩) (fun h => by simp at h; exact absurd h hx)⟩
      exact okL_take hlt hk.2.2
  · simp at h
    rw [List.take_of_length_le (by omega)] at ok hrc ⊢
    have hmk : mkOK n s a [] l := ⟨hok, rfl, ok⟩
    have hcx : ctxB s a [] = true := ctx_nil.2 hok.2
    refine ifB_intro (fun hs => ?_) (fun hs => ?_)
    · subst hs
      refine Cl.of (sseal_fn l.length _ _ _ (by omega) (by omega)) ?_
      have hr := okL_right _ _ _ _ hcx ok
      rw [if_pos hr]
      refine ⟨_, _, rfl, ifB_intro (fun h => by simp at h) (fun _ => ⟨?_, .inl ⟨hmk, ?_⟩⟩)⟩
      · have hcb := (ctxB_iff.1 hr).1
        have b1 : (leb (l.length : Int).toNat).length ≤ 10 := leb_small (by omega)
        have b2 : (leb (fin3 s a [] l).1.toNat).length ≤ 10 := leb_small (by omega)
        have b3 : (leb (fin3 s a [] l).2.1.toNat).length ≤ 10 := leb_small (by omega)
        simp only [lsum, rlen, List.length_map, List.length_append, fr_len, slP, Int.ofNat_eq_natCast]
        omega
      · rw [segL_mk hn0]
        simp [rapp]
    · subst hs
      refine .inl ⟨hmk, ?_⟩
      rw [segL_mk hn0]
      simp

end Go.Proofs.YtbocfphenkidnaaDoor.Seg
