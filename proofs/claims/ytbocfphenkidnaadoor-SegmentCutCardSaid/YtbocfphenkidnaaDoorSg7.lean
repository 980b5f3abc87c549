/- Layer 9: names, events that are the same, the fixed answer. -/
import Derived.Test.YtbocfphenkidnaaDoorSg6
import Derived.Test.YtbocfphenkidnaaDoorSegN3
namespace Go.Proofs.YtbocfphenkidnaaDoor.Seg
open Go Go.Px Go.Proofs Go.Proofs.YtbocfphenkidnaaDoor.Cod
set_option maxRecDepth 100000
set_option linter.unusedVariables false

theorem ifB_t {b : Bool} {x y : Prop} (hb : b = true) (h : x) : ifB b x y := ifB_intro (fun _ => h) (fun e => by rw [hb] at e; cases e)
theorem ifB_f {b : Bool} {x y : Prop} (hb : b = false) (h : y) : ifB b x y := ifB_intro (fun e => by rw [hb] at e; cases e) (fun _ => h)

theorem esame_fn (es : List EvD) (hl : es.length ≤ 1000000) : Ct Tryd.prog 10 {} [SL 7 (evR es), SL 7 (evR es)] (fun r => r = [B true]) := by
  refine esame_nf _ _ _ (ifB_intro (fun h => by simp at h) (fun _ => ?_))
  refine ⟨fun _ x => 0 ≤ x ∧ x ≤ es.length, fun _ x => (es.length - x).toNat, ⟨by omega, by omega⟩, ?_⟩
  rintro _ x ⟨h0, h1⟩
  refine ifB_intro (fun h => ?_) (fun h => rfl)
  simp at h
  have w : wadd IntKind.i64 x 1 = x + 1 := wadd_i64 (by omega) (by omega)
  have hlt : x.toNat < es.length := by omega
  have hg : rget (evR es) x = [I es[x.toNat].s, I es[x.toNat].a, I es[x.toNat].k, S es[x.toNat].c, I es[x.toNat].x, I es[x.toNat].y, I es[x.toNat].z] := by simp [rget, hlt]
  refine ⟨⟨h0, by simpa using h⟩, _, _, _, _, _, _, _, hg, ⟨h0, by simpa using h⟩, _, _, _, _, _, _, _, hg, ?_⟩
  rw [w]
  exact ifB_intro (fun hb => by simp at hb) (fun _ => ⟨rfl, ⟨by omega, by omega⟩, mlt (by dsimp only; omega)⟩)

theorem few_fn (s a : Int) (m : List ByteArray) (l : List EvD) (hm : m.length ≤ 9223372036854775807) (hl : l.length ≤ 9223372036854775807) : Ct Tryd.prog 6 {} [cx3 s a (nR m), SL 7 (evR l)] (fun r => ∃ b, r = [B b] ∧ (b = true → l.length ≤ 60)) := by
  have hrl : rlen (evR l) = l.length := by simp [rlen]
  refine few_nf _ _ _ _ _ ⟨fun _ x => 0 ≤ x ∧ x ≤ l.length, fun _ x => (l.length - x).toNat, ⟨by omega, by omega⟩, ?_⟩
  rintro _ x ⟨h0, h1⟩
  rw [hrl]
  refine ifB_intro (fun h => ?_) (fun h => ?_)
  · simp at h
    have w : wadd IntKind.i64 x 1 = x + 1 := wadd_i64 (by omega) (by omega)
    have hlt : x.toNat < l.length := by omega
    have hg : rget (evR l) x = [I l[x.toNat].s, I l[x.toNat].a, I l[x.toNat].k, S l[x.toNat].c, I l[x.toNat].x, I l[x.toNat].y, I l[x.toNat].z] := by simp [rget, hlt]
    refine ⟨⟨h0, h⟩, _, _, _, _, _, _, _, hg, ?_⟩
    rw [w]
    exact ifB_intro (fun hb => ⟨_, rfl, fun e => by cases e⟩) (fun hb => ⟨rfl, ⟨by omega, by omega⟩, mlt (by dsimp only; omega)⟩)
  · refine Cl.ofQ (short_fn m hm) ?_
    rintro r ⟨b, rfl, hb⟩
    refine ⟨_, rfl, _, rfl, fun e => ?_⟩
    simp at e
    omega

theorem hasp_fn (s t : ByteArray) (hl : slen t ≤ slen s) : Ct Tryd.prog 40 {} [S s, S t] (fun r => r = [B (seq (ssub s 0 (slen t)) t)]) := by
  refine hasp_nf _ _ _ (Cl.of (hasp2_nf s t _ (ifB_t (by simp only [ige_eq, decide_eq_true_eq]; omega) ⟨⟨by omega, by simp [slen], hl⟩, rfl⟩)) ⟨_, rfl, rfl⟩)

theorem mul7_fn : Ct Tryd.prog 39 {} [U64 1, U64 7] (fun r => r = [U64 0, U64 7]) := by
  have h : Ct Tryd.prog 64 {} [U64 1, U64 7] (fun r => r = [U64 0, U64 7]) := by
    refine mul64_nf 1 7 _ ⟨by omega, by omega, by omega, by omega, by omega, ?_⟩
    have h1 : wmul IntKind.u64 1 7 = 7 := by decide +kernel
    rw [h1]
    congr 2
  exact mul_nf _ _ _ (Cl.of h ⟨_, _, rfl, rfl⟩)

theorem repeat7_fn : Ct Tryd.prog 26 {} [S (ByteArray.mk (Array.mk [48])), I 7] (fun r => r = [S (ByteArray.mk (Array.mk [48, 48, 48, 48, 48, 48, 48]))]) := by
  refine srepeat_nf _ (ifB_f (by decide) (ifB_f (by decide) (ifB_f (by decide) ?_)))
  have e1 : wcv IntKind.u64 (slen (ByteArray.mk (Array.mk [48]))) = 1 := by decide +kernel
  have e2 : wcv IntKind.u64 7 = 7 := by decide +kernel
  have e3 : wcv IntKind.i64 7 = 7 := by decide +kernel
  rw [e1, e2]
  refine Cl.of mul7_fn ⟨_, _, rfl, ifB_f (by decide) (ifB_f (by decide +kernel) ⟨⟨by omega, by decide +kernel⟩, ?_⟩)⟩
  refine ⟨fun b => b = true, fun _ => 0, ifB_f (by decide +kernel) ⟨fun b => b = true, fun _ => 0, ifB_f (by decide +kernel) ⟨fun b => b = true, fun _ => 0, ifB_t (by decide +kernel) ⟨rfl, by decide +kernel⟩, fun b hb => ⟨rfl, hb⟩⟩, fun b hb => ⟨rfl, hb⟩⟩, fun b hb => ?_⟩
  refine ⟨fun _ => False, fun _ => 0, ifB_t hb ?_, fun _ h => h.elim⟩
  rw [e3]
  refine ifB_t (by decide) (Cl.of (hasp_fn _ _ (by decide +kernel)) ⟨_, rfl, ifB_f (by decide +kernel) ?_⟩)
  refine ifB_t (by decide) (Cl.of (hasp_fn _ _ (by decide +kernel)) ⟨_, rfl, ifB_f (by decide +kernel) ?_⟩)
  refine ifB_t (by decide) (Cl.of (hasp_fn _ _ (by decide +kernel)) ⟨_, rfl, ifB_t (by decide +kernel) ⟨⟨by omega, by omega, by decide +kernel⟩, ?_⟩⟩)
  have : ssub (ByteArray.mk (Array.mk [48, 48, 48, 48, 48, 48, 48, 48, 48, 48, 48, 48, 48, 48, 48, 48, 48, 48, 48, 48, 48, 48, 48, 48, 48, 48, 48, 48, 48, 48, 48, 48, 48, 48, 48, 48, 48, 48, 48, 48, 48, 48, 48, 48, 48, 48, 48, 48, 48, 48, 48, 48, 48, 48, 48, 48, 48, 48, 48, 48, 48, 48, 48, 48])) 0 7 = ByteArray.mk (Array.mk [48, 48, 48, 48, 48, 48, 48]) := by decide +kernel
  rw [this]

theorem fmt7_fn : Ct Tryd.prog 25 {} [I 7, I 10] (fun r => r = [S (ByteArray.mk (Array.mk [55]))]) := by
  have small : Ct Tryd.prog 59 {} [I 7] (fun r => r = [S (ByteArray.mk (Array.mk [55]))]) := by
    refine small_nf _ _ (ifB_t (by decide) ⟨⟨by omega, by decide +kernel, by decide +kernel⟩, ?_⟩)
    congr 3
  have h : Ct Tryd.prog 38 {} [I 7, I 10] (fun r => r = [S (ByteArray.mk (Array.mk [55]))]) := fmti2_nf 7 10 _ (ifB_t (by decide) (ifB_t (by decide) (Cl.of small ⟨_, rfl, rfl⟩)))
  exact fmti_nf _ _ _ (Cl.of h ⟨_, rfl, rfl⟩)

theorem sname7_fn : Ct Tryd.prog 12 {} [I 7] (fun r => r = [S (ByteArray.mk (Array.mk [115, 101, 103, 46, 48, 48, 48, 48, 48, 48, 48, 55]))]) := by
  refine sname_nf _ _ (Cl.of (numb_fn 7) ⟨_, rfl, ifB_f (by decide) (Cl.of fmt7_fn ⟨_, rfl, ?_⟩)⟩)
  have e : wsub IntKind.i64 8 (slen (ByteArray.mk (Array.mk [55]))) = 7 := by decide +kernel
  rw [e]
  refine Cl.of repeat7_fn ⟨_, rfl, by decide +kernel, by decide +kernel, ?_⟩
  have : scat (scat (ByteArray.mk (Array.mk [115, 101, 103, 46])) (ByteArray.mk (Array.mk [48, 48, 48, 48, 48, 48, 48]))) (ByteArray.mk (Array.mk [55])) = ByteArray.mk (Array.mk [115, 101, 103, 46, 48, 48, 48, 48, 48, 48, 48, 55]) := by decide +kernel
  rw [this]

end Go.Proofs.YtbocfphenkidnaaDoor.Seg
