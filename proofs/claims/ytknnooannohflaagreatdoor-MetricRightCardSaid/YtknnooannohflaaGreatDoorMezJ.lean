/- Layer 26: the first law. -/
import Derived.Test.YtknnooannohflaaGreatDoorMzG
import Derived.Test.YtknnooannohflaaGreatDoorMetS
import Derived.Test.YtknnooannohflaaGreatDoorMzN
namespace Go.Proofs.YtknnooannohflaaGreatDoor.Met
open Go Go.Px Go.Proofs Cmp Go.Proofs.YtknnooannohflaaGreatDoor.St
set_option maxRecDepth 100000
set_option linter.unusedVariables false

theorem sz_ok {f : FaD} (h : szF f) : f.ok := ⟨h.2.1, fun x hx => (h.2.2 x hx).1⟩

theorem law1_fn (l m : List FaD) (d : StD) (nm : ByteArray) (ls : List LaD) (hl : l.length ≤ 4000000000000000000) (hm : m.length ≤ 4000000000000000000) (hls : ∀ f ∈ l, szF f) (hms : ∀ f ∈ m, szF f)
  (hd : d.cs.length ≤ 9223372036854775807) (hn : nm.size ≤ 9000000000000000000) (hz : szL ls) : Ct Tryz.prog 6 {} [SL 4 (faR l), SL 4 (faR m), d.sv, S nm, SL 2 (laR ls)] (fun r => r = [B true]) := by
 refine mlaw1_nf _ _ _ _ _ _ _ _ (Cl.of awake_fn ⟨_, rfl, ifB_no rfl (Cl.ofQ (rshort_fn l hl hls) ?_)⟩)
 rintro _ ⟨b1, rfl⟩
 refine ⟨_, rfl, ifB_intro (fun _ => rfl) (fun _ => Cl.ofQ (rshort_fn m hm hms) ?_)⟩
 rintro _ ⟨b2, rfl⟩
 refine ⟨_, rfl, ifB_intro (fun _ => rfl) (fun _ => Cl.of (sshort_fn d hd) ⟨_, rfl, ifB_intro (fun _ => rfl) (fun h => ?_)⟩)⟩
 have hsh : d.short := by
  have := (bor_f.1 (bor_f.1 h).1).1
  simpa using this
 refine Cl.of (mnam_fn nm) ⟨_, rfl, Cl.of (rnam_fn nm hn) ⟨_, rfl, ifB_no (by simp) ?_⟩⟩
 refine Cl.of (labelled_fn ls) ⟨_, rfl, Cl.of (rlab_fn ls hz.1 hz.2) ⟨_, rfl, ifB_no (by simp) ?_⟩⟩
 refine Cl.of (all_full l (fun f hf => (hls f hf).2.1)) ⟨_, rfl, Cl.of (rall_full l hl hls) ⟨_, rfl, ifB_no (by simp) ?_⟩⟩
 refine Cl.of (same_fn l m hl (fun f hf => sz_ok (hls f hf))) ⟨_, rfl, Cl.of (rsame_fn l m hl (fun f hf => sz_ok (hls f hf))) ⟨_, rfl, ifB_no (by simp) ?_⟩⟩
 refine ⟨fun _ i => 0 ≤ i ∧ i ≤ l.length, fun _ i => (l.length - i).toNat, by omega, ?_⟩
 rintro b i ⟨i0, il⟩
 rw [rlen_eq (faR l), List.length_map]
 refine ifB_intro (fun hi => ?_) (fun _ => ?_)
 ·have hi : i < l.length := by simpa using hi
  have hi' : i.toNat < l.length := by omega
  have row := rget_mapI FaD.row l i i0 hi
  have hf := hls _ (List.getElem_mem hi')
  rw [wadd_i64 (by omega) (by omega)]
  exact ⟨⟨i0, hi⟩, _, _, _, _, row, ⟨i0, hi⟩, _, _, _, _, row, Cl.of (right_full l[i.toNat] hf.2.1) ⟨_, rfl, Cl.of (rright_full l[i.toNat] hf) ⟨_, rfl, ifB_no (by simp) ⟨rfl, by omega, mlt (by dsimp only; omega)⟩⟩⟩⟩
 ·refine Cl.of (mof_fn d (by have := hsh.2; omega)) ⟨_, _, rfl, Cl.of (srright_fn d) ⟨_, rfl, ifB_intro (fun h => ?_) (fun h => ?_)⟩⟩
  ·have hp : ¬ d.P := by simpa using h
   have e1 : flOf d = [] := by unfold flOf; rw [if_neg hp]
   have e2 : fcOf d = 1 := by unfold fcOf; rw [if_neg hp]
   rw [e1, e2]; rfl
  ·have hp : d.P := by simpa using h
   have e1 : flOf d = famsOf d := by unfold flOf; rw [if_pos hp]
   have e2 : fcOf d = 0 := by unfold fcOf; rw [if_pos hp]
   have hc : d.cs.length ≤ 1000 := by have := hp.1.1; omega
   rw [e1, e2]
   refine ifB_yes rfl (Cl.of (rof_fn d hp) ⟨_, rfl, Cl.of (rsame_fn (famsOf d) (famsOf d) (Nat.le_trans (fams_len d) (by decide)) (fun f hf => fit_ok (fams_fit hc f hf))) ⟨_, rfl, ?_⟩⟩)
   simp

end Go.Proofs.YtknnooannohflaaGreatDoor.Met
