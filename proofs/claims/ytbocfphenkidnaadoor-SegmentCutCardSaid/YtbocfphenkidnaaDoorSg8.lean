/- Layer 9: the laws SegmentBack and SegmentCut over plain data. -/
import Derived.Test.YtbocfphenkidnaaDoorSg7
namespace Go.Proofs.YtbocfphenkidnaaDoor.Seg
open Go Go.Px Go.Proofs Go.Proofs.YtbocfphenkidnaaDoor.Cod
set_option maxRecDepth 100000
set_option linter.unusedVariables false

theorem slP_byts (n s a : Int) : Byts (slP n s a) := Byts.app (byts_leb _) ((byts_leb _).app (byts_leb _))
theorem fr_byts {k : Int} {p : List Int} (hk : 0 ≤ k ∧ k ≤ 255) (hp : p.length ≤ 200) (h : Byts p) : Byts (fr k p) := by
  unfold fr
  refine sealB_byts (fun x hx => ?_)
  simp only [List.mem_cons] at hx
  rcases hx with rfl | rfl | rfl | hx
  · omega
  · omega
  · omega
  · exact h x hx
theorem recL_byts : ∀ (l : List EvD) (s a : Int) (m : List ByteArray), okL s a m l → Byts (recL s a m l)
  | [], _, _, _, _ => fun x hx => by simp [recL] at hx
  | e :: l, s, a, m, h => by
    have := encL_len h.1
    exact (fr_byts (by omega) (by omega) byts_enc).app (recL_byts l _ _ _ h.2)

theorem slP_len {d : Sc} (h : ScOK d) (h0 : d.num ≠ 0) : (slP d.ev.length d.s d.a).length ≤ 30 := by
  have hc := h.ctx h0
  have hq := okL_seq _ _ _ _ (h.evs h0)
  rw [← h.fin h0] at hq
  have hh := (h.head h0).2
  unfold ctxOK at hh hc
  have b1 : (leb (d.ev.length : Int).toNat).length ≤ 10 := leb_small (by omega)
  have b2 : (leb d.s.toNat).length ≤ 10 := leb_small (by omega)
  have b3 : (leb d.a.toNat).length ≤ 10 := leb_small (by omega)
  simp [slP] at b1 ⊢
  omega

theorem segL_byts {d : Sc} (h : ScOK d) : Byts (segL d) := by
  by_cases h0 : d.num = 0
  · intro x hx; simp [segL, h0] at hx
  rw [segL_pos h0]
  have hh := h.head h0
  unfold headOK ctxOK at hh
  have hl := hdP_len (n := d.num) (s := d.bs) (a := d.ba) (by omega) (by omega) (by omega)
  refine (fr_byts (by omega) (by omega) (byts_hdP _ _ _)).app ((recL_byts _ _ _ _ (h.evs h0)).app ?_)
  unfold slx
  split
  · have := slP_len h h0
    exact fr_byts (by omega) (by omega) (slP_byts _ _ _)
  · intro x hx; simp at hx

theorem segL_len {d : Sc} (h : ScOK d) : (segL d).length ≤ 80 + 127 * d.ev.length := by
  by_cases h0 : d.num = 0
  · simp [segL, h0]
  rw [segL_pos h0]
  have hh := h.head h0
  unfold headOK ctxOK at hh
  have hl := hdP_len (n := d.num) (s := d.bs) (a := d.ba) (by omega) (by omega) (by omega)
  have hr := recL_len2 _ _ _ _ (h.evs h0)
  have hs := slP_len h h0
  simp only [List.length_append, fr_len, slx]
  split
  · rw [fr_len]; omega
  · simp; omega

def e1 : EvD := ⟨4, 9, 4, ByteArray.mk (Array.mk [100, 98]), 1, 0, 0⟩
def e2 : EvD := ⟨5, 9, 7, ByteArray.mk (Array.mk [113]), 0, 0, 0⟩
theorem ok12 : okL 3 8 [] [e1, e2] := by
  refine ⟨⟨by decide +kernel, by decide +kernel, by decide, by decide, fun _ => by decide +kernel⟩, ⟨?_, by decide +kernel, by decide, by decide, fun _ => ?_⟩, trivial⟩
  · decide +kernel
  · decide +kernel

theorem awake_fn : Ct Tryd.prog 5 {} [] (fun r => r = [B true]) := by
  have hmk : mkOK 7 3 8 [] [e1, e2] := ⟨⟨by omega, by decide⟩, rfl, ok12⟩
  have ok := mkS_ok true hmk.1 hmk.2.2
  have hby := segL_byts ok
  have hle : (segL (mkS 7 3 8 [e1, e2] true)).length ≤ 80 + 127 * 2 := segL_len ok
  refine sawake_nf _ (Cl.ofQ (smake_fn 7 3 8 [] [e1, e2] true (by simp) (by simp)) ?_)
  rintro r (⟨_, rfl⟩ | ⟨hn, _⟩)
  rotate_left
  · exact absurd hmk hn
  refine ⟨_, _, rfl, Cl.ofQ (sread_fn _ hby (by omega)) ?_⟩
  rintro r ⟨d, st, rfl, hr⟩
  obtain ⟨rfl, rfl⟩ := hr.whole ok
  have hb1 : Byts (segL (mkS 7 3 8 [e1, e2] true) ++ [1]) := hby.app (fun x hx => by simp at hx; omega)
  refine ⟨_, _, _, _, _, _, _, _, _, _, rfl, by simp [lsum, rlen]; omega, by simp [lsum, rlen, rapp]; omega, ?_⟩
  have e0 : rapp (rapp [] (bR (segL (mkS 7 3 8 [e1, e2] true)))) [[U8 1]] = bR (segL (mkS 7 3 8 [e1, e2] true) ++ [1]) := by simp [rapp]
  rw [e0]
  refine Cl.ofQ (sread_fn _ hb1 (by simp; omega)) ?_
  rintro r ⟨d, st, rfl, hr2⟩
  have hb := hr2.far ok (List.prefix_append _ _)
  have hst : st = 3 := by
    rcases hb with e | ⟨h0, h1, h2, h3, ⟨u, hu, hs⟩, hl⟩
    · exact absurd (congrArg Sc.num e) (by decide)
    · have hd : mkS 7 3 8 [e1, e2] true = d := Sc.eq ok hr2.ok h0 h1 h2 h3 (by rw [hu, hs rfl]; simp) (hl rfl).symm
      rcases hr2.ext with ⟨w, k, p, n, hw, e, hst⟩ | ⟨k, p, n, e, tk, hst⟩
      · rw [← hd] at e hst
        simp only [List.drop_left'] at e
        have : nextR [1] = (2, 0, [], 0) := by simp [nextR]
        rw [this] at e
        simp only [Prod.mk.injEq] at e
        rw [hst, ← e.1]
        rfl
      · exact hst
  subst hst
  refine ⟨_, _, _, _, _, _, _, _, _, _, rfl, ifB_t ?_ (Cl.of (esame_fn [e1, e2] (by decide)) ⟨_, rfl, ifB_t ?_ (Cl.of sname7_fn ⟨_, rfl, ?_⟩)⟩)⟩
  · simp [mkS, endW, rlen]
  · decide +kernel
  · congr 2; decide +kernel

theorem evR_take (l : List EvD) (n : Nat) : rsub (evR l) 0 (n : Int) = evR (l.take n) := by simp [rsub]

theorem law3_fn (num cs ca : Int) (ns : List ByteArray) (l : List EvD) (sl : Bool) (b : List Int) (hns : ns.length ≤ 9223372036854775807) (hl : l.length ≤ 9223372036854775807) (hb : Byts b) :
    Ct Tryd.prog 3 {} [I num, cx3 cs ca (nR ns), SL 7 (evR l), B sl, SL 1 (bR b)] (fun r => r = [B true]) := by
  have hrb : rlen (bR b) = b.length := by simp [rlen]
  have hrl : ∀ l : List EvD, rlen (evR l) = l.length := fun l => by simp [rlen]
  refine law3_nf _ _ _ _ _ _ _ _ (Cl.of awake_fn ⟨_, rfl, ifB_f (by decide) (Cl.ofQ (few_fn cs ca ns l (by omega) hl) ?_)⟩)
  rintro r ⟨fw, rfl, hf⟩
  refine ⟨_, rfl, ifB_intro (fun _ => rfl) (fun h => ?_)⟩
  rw [hrb] at h ⊢
  simp at h
  have hl60 := hf h.1
  have hb3 : b.length ≤ 3000 := by omega
  refine Cl.ofQ (smake_fn num cs ca ns l sl (by omega) (by omega)) ?_
  intro r hmk
  obtain ⟨q, x, rfl, hx⟩ : ∃ q x, r = [SL 1 q, I x] ∧ (x = 0 → mkOK num cs ca ns l ∧ q = bR (segL (mkS num cs ca l sl))) := by
    rcases hmk with ⟨h1, rfl⟩ | ⟨h1, x, h2, rfl⟩
    · exact ⟨_, _, rfl, fun _ => ⟨h1, rfl⟩⟩
    · exact ⟨_, _, rfl, fun h => absurd h h2⟩
  refine ⟨q, x, rfl, True, 0, ifB_intro (fun h0 => ?_) (fun _ => ⟨rfl, trivial⟩), fun _ => ?_⟩
  · simp at h0
    obtain ⟨hk, rfl⟩ := hx h0
    have ok := mkS_ok sl hk.1 hk.2.2
    have hlen := segL_len ok
    have hby := segL_byts ok
    have hl' : (segL (mkS num cs ca l sl)).length ≤ 80 + 127 * 60 := by
      have : (mkS num cs ca l sl).ev.length = l.length := rfl
      omega
    refine Cl.ofQ (sread_fn _ hby (by omega)) ?_
    rintro r ⟨d, st, rfl, hr⟩
    obtain ⟨rfl, rfl⟩ := hr.whole ok
    refine ⟨_, _, _, _, _, _, _, _, _, _, rfl, fun b => b = false, fun _ => 0, ?_, fun b2 hb2 => ifB_f hb2 ⟨rfl, trivial⟩⟩
    refine ifB_f (by simp [mkS]) ?_
    have hsame : Ct Tryd.prog 9 {} [cx3 cs ca (nR []), cx3 cs ca (nR ns)] (fun r => r = [B true]) := by
      have h9 := csame_fn cs ca [] cs ca ns (by simp)
      rw [decide_eq_true (show cs = cs ∧ ca = ca ∧ [] = ns from ⟨rfl, rfl, hk.2.1.symm⟩)] at h9
      exact h9
    refine Cl.of hsame ⟨_, rfl, ifB_f (by decide) (Cl.of (esame_fn l (by omega)) ⟨_, rfl, rfl, ?_⟩)⟩
    cases sl <;> simp [endW, mkS, rlen]
  · refine Cl.ofQ (sread_fn b hb (by omega)) ?_
    rintro r ⟨d, st, rfl, hr⟩
    have hle := hr.pre.length_le
    have hevl : d.ev.length ≤ 1000 := by
      by_cases h0 : d.num = 0
      · rw [hr.ok.zero h0]; simp [sc0]
      · have := recL_len d.ev d.bs d.ba []
        rw [segL_pos h0] at hle
        simp only [List.length_append] at hle
        omega
    refine ⟨_, _, _, _, _, _, _, _, _, _, rfl, fun b => b = false, fun _ => 0, ⟨rfl, ?_⟩, fun b2 hb2 => ifB_f hb2 ?_⟩
    · have h1 : ¬ ((segL d).length : Int) < 0 := by omega
      have h2 : ¬ (b.length : Int) < (segL d).length := by omega
      by_cases h0 : d.num = 0
      · have e1 : segL d = [] := by simp [segL, h0]
        have e2 : d.ev = [] := by rw [hr.ok.zero h0]; rfl
        rw [e1, e2]
        simp [rlen]
      · simp [h0]; omega
    refine ⟨fun i s a m => 0 ≤ i ∧ i ≤ d.ev.length ∧ (d.num ≠ 0 → s = (fin3 d.bs d.ba [] (d.ev.take i.toNat)).1 ∧ a = (fin3 d.bs d.ba [] (d.ev.take i.toNat)).2.1), fun i _ _ _ => (d.ev.length - i).toNat, ⟨by omega, by omega, fun _ => ⟨rfl, rfl⟩⟩, ?_⟩
    rintro i s a m ⟨i0, i1, hsa⟩
    rw [hrl]
    refine ifB_intro (fun hlt => ?_) (fun _ => ?_)
    · simp at hlt
      have hi : i.toNat < d.ev.length := by omega
      have h0 : d.num ≠ 0 := by
        intro e
        rw [hr.ok.zero e] at hlt
        simp [sc0] at hlt
        omega
      obtain ⟨rfl, rfl⟩ := hsa h0
      have ok := okL_take hi (hr.ok.evs h0)
      have w : wadd IntKind.i64 i 1 = i + 1 := wadd_i64 (by omega) (by omega)
      have hg : rget (evR d.ev) i = [I d.ev[i.toNat].s, I d.ev[i.toNat].a, I d.ev[i.toNat].k, S d.ev[i.toNat].c, I d.ev[i.toNat].x, I d.ev[i.toNat].y, I d.ev[i.toNat].z] := by simp [rget, hi]
      rw [w]
      refine ⟨⟨i0, hlt⟩, _, _, _, _, _, _, _, hg, fun b => b = false, fun _ => 0, Cl.of (check_fn _ _ _ _ _ _ _) ⟨_, rfl, rfl, ?_⟩, fun b3 hb3 => ifB_f hb3 ⟨rfl, ⟨by omega, by omega, fun _ => ?_⟩, ?_⟩⟩
      · have h1 : chkI d.ev[i.toNat].s d.ev[i.toNat].a d.ev[i.toNat].k d.ev[i.toNat].c d.ev[i.toNat].x d.ev[i.toNat].y d.ev[i.toNat].z = 0 := ok.chk
        have h2 := ok.seq
        have h3 := ok.time
        rw [h1]
        simp
        omega
      · rw [show (i + 1).toNat = i.toNat + 1 by omega, List.take_succ_eq_append_getElem hi, fin3_snoc]
        exact ⟨rfl, rfl⟩
      · show Nat.succ (d.ev.length - (i + 1)).toNat ≤ (d.ev.length - i).toNat; omega
    · refine ⟨fun b => b = bpick (ieq d.num 0) true (bpick (ine st 1) (ine st 4) false), fun _ => 0, ⟨rfl, rfl⟩, fun b3 hb3 => ?_⟩
      subst hb3
      refine ifB_intro (fun hc => ?_) (fun hc => ?_)
      · have : bpick (igt d.num 0) true (ine st 4) = true := by
          by_cases h0 : d.num = 0
          · have := hr.st4 (by rw [hr.ok.zero h0]; rfl)
            simp [this]
          · have := (hr.ok.head h0).1
            have : 0 < d.num := by omega
            simp [this]
        rw [this]
      · simp at hc
        obtain ⟨h0, hst⟩ := hc
        have hst' : st = 1 ∨ st = 4 := by omega
        obtain ⟨hbe, h4⟩ := hr.ends hst'
        have hmk : mkOK d.num d.bs d.ba [] d.ev := ⟨hr.ok.head h0, rfl, hr.ok.evs h0⟩
        have hs4 : ieq st 4 = d.sl := by
          cases hs : d.sl with
          | true => simp [h4.2 hs]
          | false =>
            have : st ≠ 4 := fun e => by rw [h4.1 e] at hs; cases hs
            simp [this]
        have hms : mkS d.num d.bs d.ba d.ev d.sl = d := Sc.eq (mkS_ok d.sl hmk.1 hmk.2.2) hr.ok h0 rfl rfl rfl rfl rfl
        rw [hs4]
        refine Cl.ofQ (smake_fn d.num d.bs d.ba [] d.ev d.sl (by simp) (by omega)) ?_
        rintro r (⟨_, rfl⟩ | ⟨hn, _⟩)
        rotate_left
        · exact absurd hmk hn
        rw [hms, ← hbe]
        refine ⟨_, _, rfl, fun b => b = true, fun _ => 0, ifB_t (by decide) ⟨isBytes_bR hb, isBytes_bR hb, rfl, ?_⟩, fun b4 hb4 => by rw [hb4]⟩
        simp

theorem law4_fn (num cs ca : Int) (ns : List ByteArray) (l : List EvD) (sl : Bool) (cut : Int) (b : List Int) (hns : ns.length ≤ 9223372036854775807) (hl : l.length ≤ 9223372036854775807) (hc0 : 0 ≤ cut) (hc1 : cut ≤ 65535) (hb : Byts b) :
    Ct Tryd.prog 4 {} [I num, cx3 cs ca (nR ns), SL 7 (evR l), B sl, SV.int .u16 cut, SL 1 (bR b)] (fun r => r = [B true]) := by
  have hrb : ∀ b : List Int, rlen (bR b) = b.length := fun b => by simp [rlen]
  have hrl : ∀ l : List EvD, rlen (evR l) = l.length := fun l => by simp [rlen]
  refine law4_nf _ _ _ _ _ _ _ _ _ (Cl.of awake_fn ⟨_, rfl, ifB_f (by decide) (Cl.ofQ (few_fn cs ca ns l (by omega) hl) ?_)⟩)
  rintro r ⟨fw, rfl, hf⟩
  refine ⟨_, rfl, ifB_intro (fun _ => rfl) (fun h => ?_)⟩
  rw [hrb] at h
  simp at h
  have hl60 := hf h.1
  have hb3 : b.length ≤ 300 := by omega
  refine Cl.ofQ (smake_fn num cs ca ns l sl (by omega) (by omega)) ?_
  rintro r (⟨hk, rfl⟩ | ⟨h1, x, h2, rfl⟩)
  rotate_left
  · exact ⟨_, _, rfl, ifB_t (by simp [h2]) (by simp [h2])⟩
  have hn0 : num ≠ 0 := by have := hk.1.1; omega
  have ok := mkS_ok sl hk.1 hk.2.2
  have hlen := segL_len ok
  have hby := segL_byts ok
  have hev : (mkS num cs ca l sl).ev = l := rfl
  have hpos : 0 < (segL (mkS num cs ca l sl)).length := by
    rw [segL_mk hn0]
    simp only [List.length_append, fr_len]
    omega
  have hnum : (mkS num cs ca l sl).num = num := rfl
  generalize mkS num cs ca l sl = t at *
  have hl' : (segL t).length ≤ 80 + 127 * 60 := by rw [hev] at hlen; omega
  refine ⟨_, _, rfl, ifB_f (by
    simp only [hrb]
    simp
    intro e; rw [e] at hpos; simp at hpos) ?_⟩
  rw [hrb]
  have hcv : wcv IntKind.i64 cut = cut := wcvI64 (by omega) (by omega)
  obtain ⟨k, hk1, hk2⟩ : ∃ k : Nat, k < (segL t).length ∧ wrem (wcv IntKind.i64 cut) ((segL t).length : Int) = k := by
    rw [hcv]
    refine ⟨cut.toNat % (segL t).length, Nat.mod_lt _ hpos, ?_⟩
    have : cut = (cut.toNat : Int) := by omega
    rw [this, Int.toNat_natCast]
    show Int.tmod _ _ = _
    rw [Int.tmod_eq_emod_of_nonneg (by omega)]
    omega
  rw [hk2]
  refine ⟨fun h => by omega, ⟨by omega, by omega, by omega⟩, ?_⟩
  have hrs : ∀ k : Nat, rsub (bR (segL t)) 0 (k : Int) = bR ((segL t).take k) := fun k => by rw [rsub_bR]; simp
  rw [hrs]
  have hbk : Byts ((segL t).take k) := hby.sub fun x hx => List.mem_of_mem_take hx
  refine Cl.ofQ (sread_fn _ hbk (by simp; omega)) ?_
  rintro r ⟨d, st, rfl, hr⟩
  obtain ⟨hbg, hle, hsl, hst⟩ := hr.cut ok hk1
  -- its events are a beginning
  obtain ⟨u, hu⟩ : ∃ u, l = d.ev ++ u := by
    rcases hbg with e | ⟨_, _, _, _, ⟨u, hu, _⟩, _⟩
    · exact ⟨l, by rw [e]; rfl⟩
    · exact ⟨u, by rw [← hev]; exact hu⟩
  have hdl : d.ev.length ≤ l.length := by rw [hu]; simp
  have htk : l.take d.ev.length = d.ev := by rw [hu]; simp
  refine ⟨_, _, _, _, _, _, _, _, _, _, rfl, ifB_f ?_ ⟨⟨by omega, by simp [rlen], by simp [rlen]; omega⟩, ?_⟩⟩
  · rw [hrl, hrl]
    rcases hst with ⟨rfl, e⟩ | rfl <;> simp <;> omega
  rw [hrl, evR_take, htk]
  refine Cl.of (esame_fn d.ev (by omega)) ⟨_, rfl, ifB_f (by decide) (ifB_f ?_ ⟨⟨by omega, by omega, by omega⟩, ?_, ?_, ?_⟩)⟩
  · rcases hst with ⟨rfl, e⟩ | rfl
    · simp [e]
    · simp
  · rw [hrs, hrb]; simp [lsum, rlen]; omega
  · rw [hrs]; simp [lsum, rlen, rapp]; omega
  have hdt : (segL t).take (segL d).length = segL d := by
    obtain ⟨x, hx⟩ := hr.pre
    have : segL d <+: segL t := List.IsPrefix.trans ⟨x, hx⟩ (List.take_prefix _ _)
    exact (List.prefix_iff_eq_take.1 this).symm
  rw [hrs, hdt]
  have e0 : rapp (rapp [] (bR (segL d))) (bR b) = bR (segL d ++ b) := by simp [rapp]
  rw [e0]
  have hbd := segL_byts hr.ok
  refine Cl.ofQ (sread_fn _ (hbd.app hb) (by simp; omega)) ?_
  rintro r ⟨d2, st2, rfl, hr2⟩
  refine ⟨_, _, _, _, _, _, _, _, _, _, rfl, ?_⟩
  by_cases h0 : d.num = 0
  · have e2 : d.ev = [] := by rw [hr.ok.zero h0]; rfl
    rw [h0, e2]
    refine ifB_intro (fun _ => ⟨⟨by omega, by simp, by simp [rlen]⟩, ?_⟩) (fun _ => by simp)
    have : rsub (evR d2.ev) 0 (([] : List EvD).length : Int) = evR [] := by simp [rsub]
    rw [this]
    refine Cl.of (esame_fn [] (by decide)) ⟨_, rfl, ?_⟩
    simp
  · have hb2 := hr2.far hr.ok (List.prefix_append _ _)
    have hln := (hb2.len hr.ok hr2.ok).1
    rcases hb2 with e | ⟨_, h1, _, _, ⟨v, hv, _⟩, _⟩
    · exact absurd (by rw [e]; rfl) h0
    · have e3 : d2.ev.take d.ev.length = d.ev := by rw [hv]; simp
      have e4 : d.ev.length ≤ d2.ev.length := by rw [hv]; simp
      refine ifB_t ?_ ⟨⟨by omega, by omega, by rw [hrl]; omega⟩, ?_⟩
      · rw [hrl]; simp; omega
      · rw [evR_take, e3]
        refine Cl.of (esame_fn d.ev (by omega)) ⟨_, rfl, ?_⟩
        simp [h1]

end Go.Proofs.YtbocfphenkidnaaDoor.Seg
