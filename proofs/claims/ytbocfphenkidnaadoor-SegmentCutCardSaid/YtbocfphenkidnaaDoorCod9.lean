/- Layer 7: the law CodecRight over plain data. -/
import Derived.Test.YtbocfphenkidnaaDoorCod8
namespace Go.Proofs.YtbocfphenkidnaaDoor.Cod
open Go Go.Px Go.Proofs
set_option maxRecDepth 100000
set_option linter.unusedVariables false

theorem DOut.shape {cs ca : Int} {l : List ByteArray} {b : List Int} {r : List SV} (h : DOut cs ca l b r) : ∃ (e : EvD) (s a : Int) (m : List ByteArray) (n : Int), r = [e.sv, cx3 s a (nR m), I n] ∧ m.length ≤ l.length + 1 := by
  rcases h with ⟨_, rfl⟩ | ⟨_, ⟨e, _, _, rfl⟩ | ⟨_, rfl⟩⟩
  · exact ⟨⟨0, 0, 0, ByteArray.mk (Array.mk []), 0, 0, 0⟩, _, _, _, _, rfl, by omega⟩
  · refine ⟨e, _, _, _, _, rfl, ?_⟩
    unfold bhdN; split <;> simp
  · exact ⟨⟨0, 0, 0, ByteArray.mk (Array.mk []), 0, 0, 0⟩, _, _, _, _, rfl, by omega⟩

theorem DOut.eq {cs ca : Int} {l : List ByteArray} {b : List Int} {r r' : List SV} (h : DOut cs ca l b r) (h' : DOut cs ca l b r') : r = r' := by
  rcases h with ⟨h1, rfl⟩ | ⟨h1, ⟨e, h2, h3, rfl⟩ | ⟨h2, rfl⟩⟩ <;> rcases h' with ⟨g1, rfl⟩ | ⟨g1, ⟨e', g2, g3, rfl⟩ | ⟨g2, rfl⟩⟩
  · rfl
  · rw [h1] at g1; cases g1
  · rw [h1] at g1; cases g1
  · rw [h1] at g1; cases g1
  · obtain ⟨rfl, _⟩ := enc_inj (r := []) (r' := []) h2 g2 (by rw [h3, g3])
    rfl
  · exact absurd h3 (g2 e h2)
  · rw [h1] at g1; cases g1
  · exact absurd g3 (h2 e' g2)
  · rfl

/-- Bytes of an event that may follow are read as it was. -/
theorem DOut.own {cs ca : Int} {l : List ByteArray} {e : EvD} {r : List SV} (ok : EncOK cs ca l e) (h : DOut cs ca l (encL cs ca l e) r) : r = [e.sv, cx3 e.s e.a (nR (bhdN l e.c)), I 0] :=
  h.eq (.inr ⟨ok.ctx, .inl ⟨e, ok, rfl, rfl⟩⟩)

def eA : EvD := ⟨1, 5, 4, ByteArray.mk (Array.mk [100, 98]), 1, 0, 0⟩

theorem okA : EncOK 0 0 [] eA := ⟨by decide, by decide, by decide, by decide, fun _ => by decide⟩
theorem encA : encL 0 0 [] eA = [4, 1, 5, 0, 2, 100, 98, 1] := by
  have e1 : leb (4 : Int).toNat = [4] := leb_lt (by decide)
  have e2 : leb (1 - 0 : Int).toNat = [1] := leb_lt (by decide)
  have e3 : leb (5 - 0 : Int).toNat = [5] := leb_lt (by decide)
  have e4 : leb 0 = [0] := leb_lt (by decide)
  have e5 : leb 2 = [2] := leb_lt (by decide)
  have e6 : leb (1 : Int).toNat = [1] := leb_lt (by decide)
  have hp : plc [] eA.c = 0 := rfl
  have ht : txB eA.c = [100, 98] := rfl
  have hn : numI eA.k eA.x eA.y eA.z = [1] := rfl
  have hs : eA.c.size = 2 := rfl
  unfold encL numB
  rw [hp, if_pos rfl, ht, hn, hs]
  show leb (4 : Int).toNat ++ leb (1 - 0 : Int).toNat ++ leb (5 - 0 : Int).toNat ++ leb 0 ++ (leb 2 ++ [100, 98]) ++ List.flatMap (fun n => leb n.toNat) [(1 : Int)] = _
  rw [e1, e2, e3, e4, e5]
  simp only [List.flatMap_cons, List.flatMap_nil]
  rw [e6]
  rfl

theorem bhdN_len (l : List ByteArray) (c : ByteArray) : (bhdN l c).length ≤ l.length + 1 := by unfold bhdN; split <;> simp

end Go.Proofs.YtbocfphenkidnaaDoor.Cod
