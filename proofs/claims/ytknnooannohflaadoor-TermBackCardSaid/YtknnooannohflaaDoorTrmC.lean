/- Layer 21: which filters are right, and which are the same: the program's answers and the reference's. -/
import Derived.Test.YtknnooannohflaaDoorTrmN
import Derived.Test.YtknnooannohflaaDoorTrmB
namespace Go.Proofs.YtknnooannohflaaDoor.Trm
open Go Go.Px Go.Proofs
set_option maxRecDepth 100000
set_option linter.unusedVariables false

noncomputable def dB (p : Prop) : Bool := @decide p (Classical.propDecidable p)
theorem dB_t {p : Prop} (h : p) : dB p = true := by unfold dB; exact @decide_eq_true p (Classical.propDecidable p) h
theorem dB_f {p : Prop} (h : ¬ p) : dB p = false := by unfold dB; exact @decide_eq_false p (Classical.propDecidable p) h
theorem dB_iff {p : Prop} : dB p = true ↔ p := ⟨fun h => by unfold dB at h; exact @of_decide_eq_true p (Classical.propDecidable p) h, dB_t⟩
theorem dB_congr {p q : Prop} (h : p ↔ q) : dB p = dB q := by
  by_cases hq : q
  · rw [dB_t hq, dB_t (h.2 hq)]
  · rw [dB_f hq, dB_f (fun k => hq (h.1 k))]

theorem stepL {a b : Nat} (h : a < b) : Nat.le (Nat.succ a) b := h
theorem waddN (i : Nat) (h : i ≤ 9223372036854775806) : wadd .i64 (i : Int) 1 = ((i + 1 : Nat) : Int) := by
  rw [wadd_i64 (by omega) (by omega)]; omega
theorem toList_iff {x y : ByteArray} : x.toList = y.toList ↔ x = y := by
  rw [ByteArray.toList_eq, ByteArray.toList_eq]; exact bA_ext.symm
theorem seq_d (a b : ByteArray) : seq a b = decide (a = b) := by
  rw [seq_eq, Bool.eq_iff_iff]
  simp only [beq_iff_eq, decide_eq_true_eq]
  exact toList_iff
theorem sne_d (a b : ByteArray) : sne a b = !decide (a = b) := by
  rw [← seq_d]; rfl
theorem size_0 {nm : ByteArray} : nm = ⟨#[]⟩ ↔ nm.size = 0 := by
  constructor
  · rintro rfl; rfl
  · intro h
    apply bA_ext.2
    have : nm.data.toList = [] := List.eq_nil_of_length_eq_zero (by rw [ByteArray.size] at h; simpa using h)
    rw [this]
theorem seq_0 (nm : ByteArray) : seq nm (ByteArray.mk (Array.mk [])) = decide (nm.size = 0) := by
  rw [seq_d]; exact decide_eq_decide.2 size_0
theorem ifB_iff {b : Bool} {x y : Prop} : ifB b x y ↔ ((b = true → x) ∧ (b = false → y)) := by
  cases b <;> simp [ifB]

abbrev FlD.sv (f : FlD) : SV := .agg f.row

mutual
theorem FlD.ind1 {P : FlD → Prop} (h : ∀ op a b nm ks, (∀ k ∈ ks, P k) → P (.mk op a b nm ks)) : ∀ f : FlD, P f
  | .mk op a b nm ks => h op a b nm ks (FlD.indL h ks)
theorem FlD.indL {P : FlD → Prop} (h : ∀ op a b nm ks, (∀ k ∈ ks, P k) → P (.mk op a b nm ks)) : ∀ ks : List FlD, ∀ k ∈ ks, P k
  | [], k, hk => by simp at hk
  | f :: fs, k, hk => by
    rcases List.mem_cons.1 hk with e | hk
    · exact e ▸ FlD.ind1 h f
    · exact FlD.indL h fs k hk
end
theorem FlD.ind {P : FlD → Prop} (h : ∀ op a b nm ks, (∀ k ∈ ks, P k) → P (.mk op a b nm ks)) : ∀ f : FlD, P f := FlD.ind1 h

theorem kid_get (ks : List FlD) (i : Nat) (h : i < ks.length) : ∃ op a b nm ks', ks[i] = FlD.mk op a b nm ks' ∧ rget (ks.map FlD.row) (i : Int) = [I op, I a, I b, S nm, SL 5 (ks'.map FlD.row)] := by
  have e : rget (ks.map FlD.row) (i : Int) = ks[i].row := by simp [rget, h]
  rw [e]
  cases ks[i] with
  | mk op a b nm ks' => exact ⟨op, a, b, nm, ks', rfl, row_mk _ _ _ _ _⟩
theorem mk_sv (op a b : Int) (nm : ByteArray) (ks : List FlD) : (FlD.mk op a b nm ks).sv = fl5 op a b nm (ks.map FlD.row) := by
  rw [FlD.sv, row_mk]

theorem within_fn (n m : Int) : Ct Tryd.prog 144 {} [I n, I m] (fun r => r = [B (decide (0 ≤ n ∧ n ≤ m))]) := by
  refine twithin_nf _ _ _ ?_
  congr 2
  rw [Bool.eq_iff_iff]; simp

theorem named_fn (s : ByteArray) : Ct Tryd.prog 106 {} [S s] (fun r => r = [B (decide (1 ≤ s.size ∧ s.size ≤ 24))]) := by
  refine tnamed_nf _ _ ?_
  congr 2
  rw [Bool.eq_iff_iff]; simp; omega

theorem B_dec {b : Bool} {p : Prop} [Decidable p] (h : b = true ↔ p) : ([B b] : List SV) = [B (decide p)] := by
  rw [show b = decide p by rw [Bool.eq_iff_iff, h]; simp]

theorem alone_fn (op a b : Int) (nm : ByteArray) (ks : List (List SV)) : Ct Tryd.prog 102 {} [fl5 op a b nm ks] (fun r => r = [B (decide (OkOne op a b nm.size ks.length))]) := by
  refine talone_nf _ _ _ _ _ _ ?_
  simp only [seq_0, ieq_eq, ige_eq, ile_eq, bpick_eq, rlen_eq]
  have hnm := named_fn nm
  generalize ks.length = n
  generalize hsz : nm.size = m at hnm ⊢
  clear hsz
  refine ifB_intro (fun h => ?_) (fun h1 => ?_)
  · refine B_dec ?_
    simp at h; subst h
    simp [OkOne]; omega
  simp at h1
  refine ifB_intro (fun h => ?_) (fun h2 => ?_)
  · simp at h; subst h
    refine Cl.of (within_fn _ _) ⟨_, rfl, ifB_intro (fun h => Cl.of (within_fn _ _) ⟨_, rfl, ?_⟩) (fun h => ?_)⟩
    · refine B_dec ?_
      simp at h
      simp [OkOne]; omega
    · refine B_dec ?_
      simp at h
      simp [OkOne]; omega
  simp at h2
  refine ifB_intro (fun h => ?_) (fun h3 => ?_)
  · simp at h; subst h
    refine Cl.of (within_fn _ _) ⟨_, rfl, ifB_intro (fun h => Cl.of (within_fn _ _) ⟨_, rfl, ?_⟩) (fun h => ?_)⟩
    · refine B_dec ?_
      simp at h
      simp [OkOne]; omega
    · refine B_dec ?_
      simp at h
      simp [OkOne]; omega
  simp at h3
  refine ifB_intro (fun h => ?_) (fun h4 => ?_)
  · simp at h; subst h
    refine Cl.of hnm ⟨_, rfl, ?_⟩
    refine B_dec ?_
    simp [OkOne]; omega
  simp at h4
  refine ifB_intro (fun h => ?_) (fun h5 => ?_)
  · simp at h; subst h
    refine B_dec ?_
    simp [OkOne]; omega
  simp at h5
  refine ifB_intro (fun h => ifB_intro (fun _ => ?_) (fun g => ?_)) (fun h6 => ?_)
  · simp at h; subst h
    refine B_dec ?_
    simp [OkOne]; omega
  · simp at h g; omega
  simp at h6
  refine ifB_intro (fun h => ?_) (fun h7 => ?_)
  · simp at h; subst h
    refine B_dec ?_
    simp [OkOne]; omega
  simp at h7
  refine ifB_intro (fun h => ?_) (fun h8 => ?_)
  · simp at h; subst h
    refine B_dec ?_
    simp [OkOne]; omega
  · simp at h8
    refine B_dec ?_
    simp [OkOne]; omega

theorem one_fn (op a b : Int) (nm : ByteArray) (ks : List (List SV)) : Ct Tryd.prog 96 {} [fl5 op a b nm ks] (fun r => r = [B (decide (OkOne op a b nm.size ks.length))]) := by
  refine rone_nf _ _ _ _ _ _ ?_
  have e0 : sne nm (ByteArray.mk (Array.mk [])) = !decide (nm.size = 0) := by rw [← seq_0]; rfl
  simp only [e0, ieq_eq, ine_eq, ige_eq, ile_eq, ilt_eq, igt_eq, bpick_eq, rlen_eq, slen_eq]
  generalize ks.length = n
  generalize nm.size = m
  refine ifB_intro (fun h => ?_) (fun h1 => ?_)
  · refine B_dec ?_
    simp at h
    simp [OkOne]; omega
  simp at h1
  refine ifB_intro (fun h => ?_) (fun h2 => ?_)
  · refine B_dec ?_
    simp at h
    simp [OkOne]; omega
  simp at h2
  refine ifB_intro (fun h => ?_) (fun h3 => ?_)
  · refine B_dec ?_
    simp at h
    subst h
    simp [OkOne]; omega
  simp at h3
  refine ifB_intro (fun h => ?_) (fun h4 => ?_)
  · refine B_dec ?_
    simp at h
    simp [OkOne]; omega
  simp at h4
  refine ifB_intro (fun h => ?_) (fun h5 => ?_)
  · refine B_dec ?_
    simp at h
    subst h
    simp [OkOne]; omega
  simp at h5
  refine ifB_intro (fun h => ?_) (fun h6 => ?_)
  · refine B_dec ?_
    simp at h
    subst h
    simp [OkOne]; omega
  simp at h6
  refine ifB_intro (fun h => ?_) (fun h7 => ?_)
  · refine B_dec ?_
    simp at h
    subst h
    simp [OkOne]; omega
  simp at h7
  refine B_dec ?_
  simp [OkOne]; omega

theorem every_fn : ∀ f : FlD, smF f → Ct Tryd.prog 40 {} [f.sv] (fun r => r = [B (dB (okA f))]) := by
  refine FlD.ind fun op a b nm ks ih hsm => ?_
  rw [smF] at hsm
  rw [mk_sv]
  refine revery_nf _ _ _ _ _ _ (Cl.of (one_fn _ _ _ _ _) ⟨_, rfl, ifB_intro (fun h => ?_) (fun h => ?_)⟩)
  · simp at h
    rw [dB_f (by rw [okA]; exact fun k => h k.1)]
  · simp at h
    refine ⟨fun _ x => ∃ i : Nat, x = i ∧ i ≤ ks.length ∧ okL (ks.take i), fun _ x => ks.length - x.toNat, ⟨0, rfl, by omega, by simp [okL]⟩, ?_⟩
    rintro b2 _ ⟨i, rfl, hi, hok⟩
    refine ifB_intro (fun hlt => ?_) (fun hge => ?_)
    · simp at hlt
      obtain ⟨op', a', b', nm', ks', e1, e2⟩ := kid_get ks i hlt
      refine ⟨by simp; omega, _, _, _, _, _, e2, ?_⟩
      have hm := List.getElem_mem hlt
      have hk := ih _ hm (smL_mem hsm.2.2 hm)
      rw [e1, mk_sv] at hk
      refine Cl.of hk ⟨_, rfl, ifB_intro (fun g => ?_) (fun g => ⟨rfl, ?_⟩)⟩
      · simp at g
        rw [dB_f]
        rw [okA, okL_iff]
        intro k
        have := k.2 _ hm
        rw [e1] at this
        rw [dB_t this] at g; cases g
      · simp at g
        rw [waddN i (by omega)]
        refine ⟨⟨i + 1, rfl, by omega, ?_⟩, stepL (by simp; omega)⟩
        rw [okL_iff] at hok ⊢
        intro k hk
        rw [List.take_add_one, List.getElem?_eq_getElem hlt, List.mem_append] at hk
        rcases hk with hk | hk
        · exact hok k hk
        · simp at hk; subst hk; rw [e1]; exact dB_iff.1 g
    · simp at hge
      have : i = ks.length := by omega
      subst this
      rw [List.take_length] at hok
      rw [dB_t (by rw [okA]; exact ⟨by simpa using h, hok⟩)]

/-- What right tells. -/
def RgR (f : FlD) (d left : Int) (r : List SV) : Prop :=
  (okA f ∧ dep f + d ≤ 17 ∧ cnt f ≤ left → r = [B true, .agg [I (left - cnt f)]]) ∧ (¬ (okA f ∧ dep f + d ≤ 17 ∧ cnt f ≤ left) → ∃ l : Int, r = [B false, .agg [I l]])

theorem right_fn : ∀ f : FlD, smF f → ∀ d left : Int, 1 ≤ d → d ≤ 17 → 0 ≤ left → left ≤ 64 → Ct Tryd.prog 45 ⟨[.pure, .pure, .lend []], []⟩ [f.sv, I d, .agg [I left]] (RgR f d left) := by
  refine FlD.ind fun op a b nm ks ih hsm d left hd1 hd hl0 hl => ?_
  rw [smF] at hsm
  rw [mk_sv]
  refine tright_nf _ _ _ _ _ _ _ _ (ifB_intro (fun h => ?_) (fun h0 => ?_))
  · refine ⟨fun k => ?_, fun _ => ⟨_, rfl⟩⟩
    simp at h
    have := dep_pos (.mk op a b nm ks)
    have := cnt_pos (.mk op a b nm ks)
    rcases h with h | h <;> omega
  · simp at h0
    refine Cl.of (alone_fn _ _ _ _ _) ⟨_, rfl, ifB_intro (fun h => ?_) (fun h => ?_)⟩
    · simp at h
      refine ⟨fun k => ?_, fun _ => ⟨_, rfl⟩⟩
      have := k.1
      rw [okA] at this
      exact absurd this.1 h
    · simp at h
      rw [wsub_i64 (by omega) (by omega)]
      refine ⟨fun _ x x1 => ∃ i : Nat, x = i ∧ i ≤ ks.length ∧ okL (ks.take i) ∧ depL (ks.take i) + (d + 1) ≤ 17 ∧ x1 = left - 1 - cntL (ks.take i) ∧ 0 ≤ x1, fun _ x _ => ks.length - x.toNat, ⟨0, rfl, by omega, by simp [okL], by simp [depL]; omega, by simp [cntL], by omega⟩, ?_⟩
      rintro b2 _ x1 ⟨i, rfl, hi, hok, hdp, hx, hx0⟩
      refine ifB_intro (fun hlt => ?_) (fun hge => ?_)
      · simp at hlt
        obtain ⟨op', a', b', nm', ks', e1, e2⟩ := kid_get ks i hlt
        refine ⟨by simp; omega, _, _, _, _, _, e2, ?_⟩
        have hm := List.getElem_mem hlt
        have hk := ih _ hm (smL_mem hsm.2.2 hm) (d + 1) x1 (by omega) (by omega) hx0 (by omega)
        have q1 := depL_mem hm
        have q2 := cntL_snoc ks i hlt
        have q3 := cntL_take_le ks (i + 1)
        rw [e1, mk_sv] at hk
        rw [wadd_i64 (by omega) (by omega)]
        refine Cl.ofQ hk ?_
        rintro r ⟨g1, g2⟩
        rw [e1] at q1 q2
        by_cases hg : okA (.mk op' a' b' nm' ks') ∧ dep (.mk op' a' b' nm' ks') + (d + 1) ≤ 17 ∧ cnt (.mk op' a' b' nm' ks') ≤ x1
        · obtain rfl := g1 hg
          refine ⟨_, _, rfl, rfl, ?_⟩
          rw [waddN i (by omega)]
          refine ⟨⟨i + 1, rfl, by omega, ?_, ?_, by omega, by omega⟩, stepL (by simp; omega)⟩
          · rw [okL_iff] at hok ⊢
            intro k hk
            rw [List.take_add_one, List.getElem?_eq_getElem hlt, List.mem_append] at hk
            rcases hk with hk | hk
            · exact hok k hk
            · simp at hk; subst hk; rw [e1]; exact hg.1
          · rw [depL_snoc ks i hlt, e1]; omega
        · obtain ⟨l, rfl⟩ := g2 hg
          refine ⟨_, _, rfl, ?_⟩
          refine ⟨fun k => ?_, fun _ => ⟨_, rfl⟩⟩
          exfalso
          apply hg
          rw [okA, okL_iff, dep, cnt] at k
          refine ⟨by rw [← e1]; exact k.1.2 _ hm, by omega, by omega⟩
      · simp at hge
        have : i = ks.length := by omega
        subst this
        rw [List.take_length] at hok hdp hx
        refine ⟨fun k => ?_, fun k => ?_⟩
        · have e : x1 = left - cnt (.mk op a b nm ks) := by rw [cnt]; omega
          rw [e]
        · exfalso
          apply k
          rw [okA, dep, cnt]
          exact ⟨⟨by simpa using h, hok⟩, by omega, by omega⟩

theorem Right_fn (f : FlD) (hsm : smF f) : Ct Tryd.prog 20 {} [f.sv] (fun r => r = [B (dB (Rgt f))]) := by
  have h := right_fn f hsm 1 64 (by omega) (by omega) (by omega) (by omega)
  cases f with
  | mk op a b nm ks =>
    rw [mk_sv] at h ⊢
    refine tfr_nf _ _ _ _ _ _ (Cl.ofQ h ?_)
    rintro r ⟨g1, g2⟩
    by_cases hg : okA (.mk op a b nm ks) ∧ (dep (.mk op a b nm ks) : Int) + 1 ≤ 17 ∧ (cnt (.mk op a b nm ks) : Int) ≤ 64
    · obtain rfl := g1 hg
      refine ⟨_, _, rfl, ?_⟩
      rw [dB_t ⟨hg.1, by omega, by omega⟩]
    · obtain ⟨l, rfl⟩ := g2 hg
      refine ⟨_, _, rfl, ?_⟩
      rw [dB_f (fun k => hg ⟨k.1, by have := k.2.2; omega, by have := k.2.1; omega⟩)]

theorem size_fn : ∀ f : FlD, smF f → ∀ k : Nat, k ≤ 100 → Ct Tryd.prog 36 {} [f.sv, I k] (fun r => ∃ m d : Int, r = [I m, I d] ∧ SzR f k m d) := by
  refine FlD.ind fun op a b nm ks ih hsm k hk => ?_
  rw [smF] at hsm
  rw [mk_sv]
  have kk : k * k + k + 2 ≤ 10102 := by
    have := Nat.mul_le_mul hk hk
    omega
  refine rsize_nf _ _ _ _ _ _ _ ⟨fun _ _ m d x => ∃ i : Nat, x = i ∧ i ≤ ks.length ∧ SzL (.mk op a b nm ks) k i m d, fun _ _ _ _ x => ks.length - x.toNat, ⟨0, rfl, by omega, SzL.start _ _⟩, ?_⟩
  rintro _ _ m d _ ⟨i, rfl, hi, hz⟩
  have e2k : wmul .i64 2 (k : Int) = 2 * (k : Int) := by
    have : (wmul .i64 2 (k : Int)) = IntKind.i64.wrap (2 * (k : Int)) := rfl
    rw [this]; exact wrap_i64 (by omega) (by omega)
  rw [e2k]
  have hmb := hz.mb
  have hdb := hz.db
  have hm1 := hz.m1
  have hd1 := hz.d1
  refine ifB_intro (fun hlt => ?_) (fun hge => ?_)
  · simp at hlt
    refine ifB_intro (fun h0 => ?_) (fun h0 => ?_)
    · simp at h0
      subst h0
      have h1 : m = 1 ∧ d = 1 ∨ True := .inr trivial
      refine ⟨_, _, rfl, ?_⟩
      have hm : m ≤ 0 := by have := hlt.2; simpa using this
      omega
    · simp at h0
      obtain ⟨op', a', b', nm', ks', e1, e2⟩ := kid_get ks i hlt.1
      refine ⟨by simp; omega, _, _, _, _, _, e2, ?_⟩
      have hm := List.getElem_mem hlt.1
      have hkd := ih _ hm (smL_mem hsm.2.2 hm) (k - 1) (by omega)
      rw [e1, mk_sv] at hkd
      rw [wsub_i64 (by omega) (by omega), show (k : Int) - 1 = ((k - 1 : Nat) : Int) by omega]
      refine Cl.ofQ hkd ?_
      rintro r ⟨n, e, rfl, hzr⟩
      have hnb := hzr.mb
      have heb := hzr.db
      have hn1 := hzr.m1
      have he1 := hzr.d1
      have kk1 : (k - 1) * (k - 1) + (k - 1) + 2 ≤ 10102 := by
        have := Nat.mul_le_mul (show k - 1 ≤ 100 by omega) (show k - 1 ≤ 100 by omega)
        omega
      have hnext := hz.next (n := n) (e := e) (by omega) (by omega) hlt.1 (by
        show SzR ks[i] _ _ _
        rw [e1]; exact hzr)
      refine ⟨_, _, rfl, ?_⟩
      rw [wadd_i64 (a := e) (by omega) (by omega), wadd_i64 (a := m) (by omega) (by omega), waddN i (by omega)]
      refine ifB_intro (fun hg => ⟨rfl, ⟨i + 1, rfl, by omega, ?_⟩, stepL (by simp; omega)⟩) (fun hg => ⟨rfl, ⟨i + 1, rfl, by omega, ?_⟩, stepL (by simp; omega)⟩)
      · simp at hg; rw [if_pos hg] at hnext; exact hnext
      · simp at hg; rw [if_neg (by omega)] at hnext; exact hnext
  · simp at hge
    refine ⟨_, _, rfl, hz.done ?_⟩
    show i = ks.length ∨ _
    by_cases hil : i < ks.length
    · exact .inr ⟨by show i ≤ ks.length; omega, by have := hge hil; omega⟩
    · exact .inl (by omega)

theorem rRight_fn (f : FlD) (hsm : smF f) : Ct Tryd.prog 15 {} [f.sv] (fun r => r = [B (dB (Rgt f))]) := by
  have h1 := size_fn f hsm 70 (by omega)
  have h2 := every_fn f hsm
  cases f with
  | mk op a b nm ks =>
    rw [mk_sv] at h1 h2 ⊢
    refine rright_nf _ _ _ _ _ _ (Cl.ofQ h1 ?_)
    rintro r ⟨m, d, rfl, hz⟩
    have hr := hz.right
    refine ⟨_, _, rfl, ifB_intro (fun h => Cl.of h2 ⟨_, rfl, ?_⟩) (fun h => ?_)⟩
    · simp at h
      have := hr.1 ⟨h.1, h.2⟩
      congr 2
      exact dB_congr ⟨fun k => ⟨k, this⟩, fun k => k.1⟩
    · simp at h
      rw [dB_f (fun k => ?_)]
      have := hr.2 k.2
      have := h this.1
      omega

theorem names_fn : ∀ f : FlD, smF f → Ct Tryd.prog 37 {} [f.sv] (fun r => ∃ b, r = [B b]) := by
  refine FlD.ind fun op a b nm ks ih hsm => ?_
  rw [smF] at hsm
  rw [mk_sv]
  refine rnames_nf _ _ _ _ _ _ ⟨fun _ x => ∃ i : Nat, x = i ∧ i ≤ ks.length, fun _ x => ks.length - x.toNat, ⟨0, rfl, by omega⟩, ?_⟩
  rintro b2 _ ⟨i, rfl, hi⟩
  refine ifB_intro (fun hlt => ?_) (fun hge => ⟨_, rfl⟩)
  simp at hlt
  obtain ⟨op', a', b', nm', ks', e1, e2⟩ := kid_get ks i hlt
  refine ⟨by simp; omega, _, _, _, _, _, e2, ?_⟩
  have hm := List.getElem_mem hlt
  have hk := ih _ hm (smL_mem hsm.2.2 hm)
  rw [e1, mk_sv] at hk
  refine Cl.ofQ hk ?_
  rintro r ⟨c, rfl⟩
  refine ⟨_, rfl, ifB_intro (fun g => ⟨_, rfl⟩) (fun g => ⟨rfl, ?_⟩)⟩
  rw [waddN i (by omega)]
  exact ⟨⟨i + 1, rfl, by omega⟩, stepL (by simp; omega)⟩

theorem Short_fn (f : FlD) (hsm : smF f) : Ct Tryd.prog 13 {} [f.sv] (fun r => ∃ b, r = [B b]) := by
  have h1 := size_fn f hsm 100 (by omega)
  have h2 := names_fn f hsm
  cases f with
  | mk op a b nm ks =>
    rw [mk_sv] at h1 h2 ⊢
    refine rshort_nf _ _ _ _ _ _ (Cl.ofQ h1 ?_)
    rintro r ⟨m, d, rfl, hz⟩
    refine ⟨_, _, rfl, ifB_intro (fun h => Cl.ofQ h2 ?_) (fun h => ⟨_, rfl⟩)⟩
    rintro r ⟨c, rfl⟩
    exact ⟨_, rfl, _, rfl⟩

theorem eq_cond {op a b op2 a2 b2 : Int} {nm nm2 : ByteArray} {n n2 : Nat} :
    (bpick (bpick (bpick (bpick (ine op op2) true (ine a a2)) true (ine b b2)) true (sne nm nm2)) true (ine (n : Int) (n2 : Int))) = false ↔ (op = op2 ∧ a = a2 ∧ b = b2 ∧ nm = nm2 ∧ n = n2) := by
  rw [sne_d]
  simp
  constructor
  · rintro ⟨⟨⟨⟨h1, h2⟩, h3⟩, h4⟩, h5⟩; exact ⟨h1, h2, h3, h4, by omega⟩
  · rintro ⟨h1, h2, h3, h4, h5⟩; exact ⟨⟨⟨⟨h1, h2⟩, h3⟩, h4⟩, by omega⟩

theorem same_fn : ∀ f : FlD, smF f → ∀ g : FlD, Ct Tryd.prog 46 {} [f.sv, g.sv] (fun r => r = [B (dB (f = g))]) := by
  refine FlD.ind fun op a b nm ks ih hsm g => ?_
  rw [smF] at hsm
  cases g with
  | mk op2 a2 b2 nm2 ks2 =>
    rw [mk_sv, mk_sv]
    refine tsame_nf _ _ _ _ _ _ _ _ _ _ _ ?_
    rw [rlen_eq, rlen_eq, List.length_map, List.length_map]
    refine ifB_intro (fun h => ?_) (fun h => ?_)
    · rw [dB_f]
      rintro e
      injection e with e1 e2 e3 e4 e5
      subst e5
      have := (eq_cond (n := ks.length) (n2 := ks.length)).2 ⟨e1, e2, e3, e4, rfl⟩
      rw [this] at h; cases h
    · obtain ⟨rfl, rfl, rfl, rfl, hl⟩ := eq_cond.1 h
      refine ⟨fun _ x => ∃ i : Nat, x = i ∧ i ≤ ks.length ∧ ks.take i = ks2.take i, fun _ x => ks.length - x.toNat, ⟨0, rfl, by omega, by simp⟩, ?_⟩
      rintro b2 _ ⟨i, rfl, hi, hok⟩
      refine ifB_intro (fun hlt => ?_) (fun hge => ?_)
      · simp at hlt
        obtain ⟨op', a', b', nm', ks', e1, e2⟩ := kid_get ks i hlt
        obtain ⟨oq', aq', bq', nq', kq', f1, f2⟩ := kid_get ks2 i (by omega)
        refine ⟨by omega, _, _, _, _, _, e2, by omega, _, _, _, _, _, f2, ?_⟩
        have hm := List.getElem_mem hlt
        have hk := ih _ hm (smL_mem hsm.2.2 hm) ks2[i]
        rw [e1, f1, mk_sv, mk_sv] at hk
        refine Cl.of hk ⟨_, rfl, ifB_intro (fun g => ?_) (fun g => ⟨rfl, ?_⟩)⟩
        · simp only [bnot_eq, Bool.not_eq_true'] at g
          rw [dB_f]
          intro e
          injection e with _ _ _ _ e5
          subst e5
          rw [e1] at f1
          rw [dB_t f1] at g; cases g
        · simp only [bnot_eq, Bool.not_eq_false'] at g
          rw [waddN i (by omega)]
          refine ⟨⟨i + 1, rfl, by omega, ?_⟩, stepL (by simp; omega)⟩
          rw [List.take_add_one, List.take_add_one, hok, List.getElem?_eq_getElem hlt, List.getElem?_eq_getElem (by omega), e1, f1, dB_iff.1 g]
      · simp at hge
        have e1 : i = ks.length := by omega
        subst e1
        rw [List.take_length, hl, List.take_length] at hok
        rw [dB_t (by rw [hok])]

theorem equal_fn : ∀ f : FlD, smF f → ∀ g : FlD, Ct Tryd.prog 19 {} [f.sv, g.sv] (fun r => r = [B (dB (f = g))]) := by
  refine FlD.ind fun op a b nm ks ih hsm g => ?_
  rw [smF] at hsm
  cases g with
  | mk op2 a2 b2 nm2 ks2 =>
    rw [mk_sv, mk_sv]
    refine requal_nf _ _ _ _ _ _ _ _ _ _ _ ?_
    rw [rlen_eq, rlen_eq, List.length_map, List.length_map]
    refine ifB_intro (fun h => ?_) (fun h => ?_)
    · rw [dB_f]
      rintro e
      injection e with e1 e2 e3 e4 e5
      subst e5
      have := (eq_cond (n := ks.length) (n2 := ks.length)).2 ⟨e1, e2, e3, e4, rfl⟩
      rw [this] at h; cases h
    · obtain ⟨rfl, rfl, rfl, rfl, hl⟩ := eq_cond.1 h
      refine ⟨fun _ x => ∃ i : Nat, x = i ∧ i ≤ ks.length ∧ ks.take i = ks2.take i, fun _ x => ks.length - x.toNat, ⟨0, rfl, by omega, by simp⟩, ?_⟩
      rintro b2 _ ⟨i, rfl, hi, hok⟩
      refine ifB_intro (fun hlt => ?_) (fun hge => ?_)
      · simp at hlt
        obtain ⟨op', a', b', nm', ks', e1, e2⟩ := kid_get ks i hlt
        obtain ⟨oq', aq', bq', nq', kq', f1, f2⟩ := kid_get ks2 i (by omega)
        refine ⟨by omega, _, _, _, _, _, e2, by omega, _, _, _, _, _, f2, ?_⟩
        have hm := List.getElem_mem hlt
        have hk := ih _ hm (smL_mem hsm.2.2 hm) ks2[i]
        rw [e1, f1, mk_sv, mk_sv] at hk
        refine Cl.of hk ⟨_, rfl, ifB_intro (fun g => ?_) (fun g => ⟨rfl, ?_⟩)⟩
        · simp only [bnot_eq, Bool.not_eq_true'] at g
          rw [dB_f]
          intro e
          injection e with _ _ _ _ e5
          subst e5
          rw [e1] at f1
          rw [dB_t f1] at g; cases g
        · simp only [bnot_eq, Bool.not_eq_false'] at g
          rw [waddN i (by omega)]
          refine ⟨⟨i + 1, rfl, by omega, ?_⟩, stepL (by simp; omega)⟩
          rw [List.take_add_one, List.take_add_one, hok, List.getElem?_eq_getElem hlt, List.getElem?_eq_getElem (by omega), e1, f1, dB_iff.1 g]
      · simp at hge
        have e1 : i = ks.length := by omega
        subst e1
        rw [List.take_length, hl, List.take_length] at hok
        rw [dB_t (by rw [hok])]

theorem fSame_fn (f g : FlD) (hf : smF f) (hg : smF g) : Ct Tryd.prog 21 {} [f.sv, g.sv] (fun r => r = [B (dB (Rgt f ∧ Rgt g ∧ f = g))]) := by
  have h1 := Right_fn f hf
  have h2 := Right_fn g hg
  have h3 := same_fn f hf g
  cases f with
  | mk op a b nm ks =>
    cases g with
    | mk op2 a2 b2 nm2 ks2 =>
      rw [mk_sv] at h1 h2
      rw [mk_sv, mk_sv] at h3 ⊢
      refine tfsame_nf _ _ _ _ _ _ _ _ _ _ _ (Cl.of h1 ⟨_, rfl, ifB_intro (fun k1 => Cl.of h2 ⟨_, rfl, ifB_intro (fun k2 => Cl.of h3 ⟨_, rfl, ?_⟩) (fun k2 => ?_)⟩) (fun k1 => ?_)⟩)
      · congr 2
        exact dB_congr ⟨fun k => ⟨dB_iff.1 k1, dB_iff.1 k2, k⟩, fun k => k.2.2⟩
      · rw [dB_f (fun k => by rw [dB_t k.2.1] at k2; cases k2)]
      · rw [dB_f (fun k => by rw [dB_t k.1] at k1; cases k1)]
end Go.Proofs.YtknnooannohflaaDoor.Trm
