/- The contracts of strconv.FormatInt at base 10 and of strings.Repeat, off the shelf, at this seat's numbers. -/
import Derived.Test.YtbocfphenkidnaaGreatDoorPxSh
import Derived.Test.YtbocfphenkidnaaGreatDoorEvA
import Derived.Shelf.LaysM
import Derived.Shelf.Strconv.Itoa4
import Derived.Shelf.Strings.Repeat
import Derived.Test.YtbocfphenkidnaaGreatDoorProg
namespace Go.Proofs
open Go.Shelf
def Tryz.laysM173_ren : Go.Shelf.Ren := ⟨fun | 173 => 59 | 246 => 120 | 283 => 188 | 284 => 189 | 285 => 190 | 286 => 191 | 129 => 220 | 317 => 219 | 318 => 221 | 319 => 222 | 320 => 223 | 337 => 237 | 338 => 238 | n => n, fun | 2 => 2 | 3 => 3 | 9 => 9 | 4 => 4 | 171 => 233 | 0 => 0 | 53 => 92 | 37 => 26 | 5 => 5 | 173 => 236 | 212 => 264 | 51 => 126 | 20 => 20 | 213 => 265 | 46 => 154 | 232 => 287 | 233 => 288 | n => n, fun | 17 => 0 | 18 => 2 | 19 => 3 | n => n⟩
theorem Tryz.laysM173 : Go.Proofs.LaysM.n173 Tryz.prog Tryz.laysM173_ren := {
 mixed := by kernel_rfl
 f129 := Tryz.func220.trans (congrArg some (by kernel_rfl))
 f173 := Tryz.func59.trans (congrArg some (by kernel_rfl))
 f246 := Tryz.func120.trans (congrArg some (by kernel_rfl))
 f283 := Tryz.func188.trans (congrArg some (by kernel_rfl))
 f284 := Tryz.func189.trans (congrArg some (by kernel_rfl))
 f285 := Tryz.func190.trans (congrArg some (by kernel_rfl))
 f286 := Tryz.func191.trans (congrArg some (by kernel_rfl))
 f317 := Tryz.func219.trans (congrArg some (by kernel_rfl))
 f318 := Tryz.func221.trans (congrArg some (by kernel_rfl))
 f319 := Tryz.func222.trans (congrArg some (by kernel_rfl))
 f320 := Tryz.func223.trans (congrArg some (by kernel_rfl))
 f337 := Tryz.func237.trans (congrArg some (by kernel_rfl))
 f338 := Tryz.func238.trans (congrArg some (by kernel_rfl))
 t0 := Tryz.underlying0
 a0 := Tryz.isAgg0
 z0 := Tryz.sizeOf0
 v0 := Tryz.zeroValue0
 t2 := Tryz.underlying2
 a2 := Tryz.isAgg2
 z2 := Tryz.sizeOf2
 v2 := Tryz.zeroValue2
 t3 := Tryz.underlying3
 a3 := Tryz.isAgg3
 z3 := Tryz.sizeOf3
 v3 := Tryz.zeroValue3
 t4 := Tryz.underlying4
 a4 := Tryz.isAgg4
 z4 := Tryz.sizeOf4
 v4 := Tryz.zeroValue4
 t5 := Tryz.underlying5
 a5 := Tryz.isAgg5
 z5 := Tryz.sizeOf5
 v5 := Tryz.zeroValue5
 t9 := Tryz.underlying9
 a9 := Tryz.isAgg9
 z9 := Tryz.sizeOf9
 v9 := Tryz.zeroValue9
 t20 := Tryz.underlying20
 a20 := Tryz.isAgg20
 z20 := Tryz.sizeOf20
 v20 := Tryz.zeroValue20
 t37 := Tryz.underlying26
 a37 := Tryz.isAgg26
 z37 := Tryz.sizeOf26
 v37 := Tryz.zeroValue26
 t46 := Tryz.underlying154
 a46 := Tryz.isAgg154
 z46 := Tryz.sizeOf154
 v46 := Tryz.zeroValue154
 t51 := Tryz.underlying126
 a51 := Tryz.isAgg126
 z51 := Tryz.sizeOf126
 v51 := Tryz.zeroValue126
 t53 := Tryz.underlying92
 a53 := Tryz.isAgg92
 z53 := Tryz.sizeOf92
 v53 := Tryz.zeroValue92
 t171 := Tryz.underlying233
 a171 := Tryz.isAgg233
 z171 := Tryz.sizeOf233
 v171 := Tryz.zeroValue233
 t173 := Tryz.underlying236
 a173 := Tryz.isAgg236
 z173 := Tryz.sizeOf236
 v173 := Tryz.zeroValue236
 t212 := Tryz.underlying264
 a212 := Tryz.isAgg264
 z212 := Tryz.sizeOf264
 v212 := Tryz.zeroValue264
 t213 := Tryz.underlying265
 a213 := Tryz.isAgg265
 z213 := Tryz.sizeOf265
 t232 := Tryz.underlying287
 a232 := Tryz.isAgg287
 z232 := Tryz.sizeOf287
 v232 := Tryz.zeroValue287
 t233 := Tryz.underlying288
 a233 := Tryz.isAgg288
 z233 := Tryz.sizeOf288
 v233 := Tryz.zeroValue288
 g17 := by kernel_rfl
 g18 := by kernel_rfl
 g19 := by kernel_rfl
 i0 := by kernel_rfl
 i2 := by kernel_rfl
 i3 := by kernel_rfl
 i4 := by kernel_rfl
 i5 := by kernel_rfl
 i9 := by kernel_rfl
 i20 := by kernel_rfl
 i37 := by kernel_rfl
 i46 := by kernel_rfl
 i51 := by kernel_rfl
 i53 := by kernel_rfl
 i171 := by kernel_rfl
 i173 := by kernel_rfl
 i212 := by kernel_rfl
 i232 := by kernel_rfl
 i233 := by kernel_rfl
 m17 := by kernel_rfl
 m18 := by kernel_rfl
 m19 := by kernel_rfl }
def Tryz.lays105_ren : Go.Shelf.Ren := ⟨fun | 105 => 60 | 212 => 121 | 99 => 122 | 165 => 123 | 166 => 124 | 170 => 125 | 169 => 126 | 263 => 192 | 264 => 193 | 206 => 194 | 240 => 195 | 241 => 196 | 276 => 224 | 277 => 225 | n => n, fun | 9 => 9 | 3 => 3 | 4 => 4 | 20 => 20 | 0 => 0 | 46 => 154 | 109 => 164 | 5 => 5 | 72 => 169 | 76 => 173 | 51 => 126 | 146 => 238 | 53 => 92 | 148 => 240 | 70 => 167 | 37 => 26 | 75 => 172 | 127 => 242 | 164 => 267 | 80 => 176 | n => n, fun | n => n⟩
theorem Tryz.lays105 : Go.Proofs.Lays.n105 Tryz.prog Tryz.lays105_ren := {
 mixed := by kernel_rfl
 f99 := Tryz.func122.trans (congrArg some (by kernel_rfl))
 f105 := Tryz.func60.trans (congrArg some (by kernel_rfl))
 f165 := Tryz.func123.trans (congrArg some (by kernel_rfl))
 f166 := Tryz.func124.trans (congrArg some (by kernel_rfl))
 f169 := Tryz.func126.trans (congrArg some (by kernel_rfl))
 f170 := Tryz.func125.trans (congrArg some (by kernel_rfl))
 f206 := Tryz.func194.trans (congrArg some (by kernel_rfl))
 f212 := Tryz.func121.trans (congrArg some (by kernel_rfl))
 f240 := Tryz.func195.trans (congrArg some (by kernel_rfl))
 f241 := Tryz.func196.trans (congrArg some (by kernel_rfl))
 f263 := Tryz.func192.trans (congrArg some (by kernel_rfl))
 f264 := Tryz.func193.trans (congrArg some (by kernel_rfl))
 f276 := Tryz.func224.trans (congrArg some (by kernel_rfl))
 f277 := Tryz.func225.trans (congrArg some (by kernel_rfl))
 t0 := Tryz.underlying0
 a0 := Tryz.isAgg0
 z0 := Tryz.sizeOf0
 v0 := Tryz.zeroValue0
 t3 := Tryz.underlying3
 a3 := Tryz.isAgg3
 z3 := Tryz.sizeOf3
 v3 := Tryz.zeroValue3
 t4 := Tryz.underlying4
 a4 := Tryz.isAgg4
 z4 := Tryz.sizeOf4
 v4 := Tryz.zeroValue4
 t5 := Tryz.underlying5
 a5 := Tryz.isAgg5
 z5 := Tryz.sizeOf5
 v5 := Tryz.zeroValue5
 t9 := Tryz.underlying9
 a9 := Tryz.isAgg9
 z9 := Tryz.sizeOf9
 v9 := Tryz.zeroValue9
 t20 := Tryz.underlying20
 a20 := Tryz.isAgg20
 z20 := Tryz.sizeOf20
 v20 := Tryz.zeroValue20
 t37 := Tryz.underlying26
 a37 := Tryz.isAgg26
 z37 := Tryz.sizeOf26
 v37 := Tryz.zeroValue26
 t46 := Tryz.underlying154
 a46 := Tryz.isAgg154
 z46 := Tryz.sizeOf154
 v46 := Tryz.zeroValue154
 t51 := Tryz.underlying126
 a51 := Tryz.isAgg126
 z51 := Tryz.sizeOf126
 v51 := Tryz.zeroValue126
 t53 := Tryz.underlying92
 a53 := Tryz.isAgg92
 z53 := Tryz.sizeOf92
 v53 := Tryz.zeroValue92
 t70 := Tryz.underlying167
 a70 := Tryz.isAgg167
 z70 := Tryz.sizeOf167
 v70 := Tryz.zeroValue167
 t72 := Tryz.underlying169
 a72 := Tryz.isAgg169
 z72 := Tryz.sizeOf169
 v72 := Tryz.zeroValue169
 t75 := Tryz.underlying172
 a75 := Tryz.isAgg172
 z75 := Tryz.sizeOf172
 v75 := Tryz.zeroValue172
 t76 := Tryz.underlying173
 a76 := Tryz.isAgg173
 z76 := Tryz.sizeOf173
 v76 := Tryz.zeroValue173
 t109 := Tryz.underlying164
 a109 := Tryz.isAgg164
 z109 := Tryz.sizeOf164
 v109 := Tryz.zeroValue164
 t127 := Tryz.underlying242
 a127 := Tryz.isAgg242
 z127 := Tryz.sizeOf242
 v127 := Tryz.zeroValue242
 t146 := Tryz.underlying238
 a146 := Tryz.isAgg238
 z146 := Tryz.sizeOf238
 v146 := Tryz.zeroValue238
 t148 := Tryz.underlying240
 a148 := Tryz.isAgg240
 z148 := Tryz.sizeOf240
 v148 := Tryz.zeroValue240
 t164 := Tryz.underlying267
 a164 := Tryz.isAgg267
 z164 := Tryz.sizeOf267
 v164 := Tryz.zeroValue267 }
theorem Tryz.Builder_Extra_105 : Builder.Extra Tryz.prog Tryz.lays105_ren := {
 sizeBuilder := by kernel_rfl
 liesBuilder := by kernel_rfl
 t5 := Tryz.underlying5
 a5 := Tryz.isAgg5
 z5 := Tryz.sizeOf5
 v5 := Tryz.zeroValue5
 infoByte := by kernel_rfl
 cellsByte := by kernel_rfl
 sizeByte := by kernel_rfl
 neB5 := by decide }
end Go.Proofs
namespace Go.Proofs.YtbocfphenkidnaaGreatDoor.Seg
open Go Go.Px Go.Proofs Go.RowKit
set_option maxRecDepth 100000
set_option linter.unusedVariables false

theorem tab_is {h : Hp} {w : World} (hs : HSub h w) (g : Gl h w) {nm : String} (hn : Tryz.prog.globalNamed nm = some 0) : Lib.TabIs Tryz.prog w nm .u64 Lib.pow10Tab := by
 have hp : (0, pow10) ∈ globTab := by simp [globTab]
 obtain ⟨_, cs, t, fz, hb, hsz⟩ := g.size _ hp
 have hcell : ∀ (i : Nat) (z : Int), Lib.pow10Tab[i]? = some z → cs[i]? = some (.int .u64 z) := by
  intro i z hz
  have hc : pow10[i]? = some (.val (.int .u64 z)) := by
   have : pow10 = Lib.pow10Tab.map fun z => SV.val (.int .u64 z) := by kernel_rfl
   rw [this, List.getElem?_map, hz]; rfl
  obtain ⟨v, h1, h2⟩ := g.cells _ hp i _ hc
  have h3 := hs _ _ _ h1
  have h4 : v = .int .u64 z := (Rep.pure (ρ := fun _ => noLoc) v _ h2).val_inv
  subst h4
  simp only [World.cell?, hb] at h3
  simpa using h3
 have hl : pow10.length = Lib.pow10Tab.length := by decide +kernel
 unfold Lib.TabIs World.var?
 rw [hn]
 simp only [Option.bind_some, hb]
 congr 1
 apply Array.ext
 ·rw [hsz]; simp [hl]
 ·intro i h1 h2
  have h3 : i < Lib.pow10Tab.length := by simp at h2; omega
  have := hcell i _ (List.getElem?_eq_getElem h3)
  rw [Array.getElem?_eq_getElem h1] at this
  simpa using this

theorem fmt10_fn (n : Int) (h0 : -9223372036854775808 ≤ n) (h1 : n ≤ 9223372036854775807) : Ct Tryz.prog 59 {} [I n, I 10] (fun r => r = [S ⟨(Lib.itoa n).toArray⟩]) := by
 refine ct_of_calls Tryz.func59 (by kernel_rfl) (fun e => ?_) [.int .i64 n, .int .i64 10] (.string ⟨(Lib.itoa n).toArray⟩) (fun h w hs hg => ?_)
 ·have : (Tryz.f59.name == "runtime.NumGoroutine") = false := by kernel_rfl
  rw [e] at this; simp at this
 ·refine (Any.strconv_FormatInt_10 Tryz.laysM173 n h0 h1 w (tab_is hs hg (by kernel_rfl))).mono ?_
  rintro e w' ⟨rfl, k2, os, rfl⟩
  refine ⟨rfl, rfl, rfl, rfl, by simp [Sort.grow], fun k hk => ?_⟩
  have : k < (w.drewN k2).heap.size := hk
  simp only [Sort.grow]
  rw [Array.getElem?_append_left this]; rfl

theorem repeat_fn (s : ByteArray) (c : Nat) (hc : c ≤ 9223372036854775807) (hlen : s.size * c ≤ 140737488355328) : Ct Tryz.prog 60 {} [S s, I c] (fun r => r = [S ⟨(Lib.repeatL s.data.toList c).toArray⟩]) := by
 refine ct_of_calls Tryz.func60 (by kernel_rfl) (fun e => ?_) [.string s, .int .i64 c] (.string ⟨(Lib.repeatL s.data.toList c).toArray⟩) (fun h w hs hg => ?_)
 ·have : (Tryz.f60.name == "runtime.NumGoroutine") = false := by kernel_rfl
  rw [e] at this; simp at this
 ·exact Any.strings_Repeat Tryz.lays105 Tryz.Builder_Extra_105 s c w hc hlen

end Go.Proofs.YtbocfphenkidnaaGreatDoor.Seg
