/-
  The library contracts of the kit, laid at this program by its own tool, of these only what is used; the program is good for the abstract machine, in a world that holds the library's tables.
-/
import Derived.Shelf.Strings.OnBuilder
import Derived.Shelf.Small.Strs
import Derived.Shelf.LaysM
import Derived.Shelf.Strconv.Itoa3
import Derived.Shelf.LaysC
import Derived.Shelf.Strconv.AtoiAll
import Derived.Shelf.Strings.Search1
import Derived.Shelf.Strings.Search2
import Derived.Shelf.Strings.Search3
import Derived.Shelf.Strings.Count
import Derived.Shelf.Strings.Shaped
import Derived.Shelf.Unicode.DecodeLast
import Derived.Shelf.Strings.MapGrows
import Derived.Shelf.Bytes.SlCountOne
import Derived.Shelf.Bytes.SlCountWhole
import Derived.Shelf.Bytes.SlSplit
import Derived.Test.YtibglbjklefjdaaGreatDoorProg
import Derived.Test.YtibglbjklefjdaaGreatDoorTb
import Derived.Test.YtibglbjklefjdaaGreatDoorANd
import Derived.WalkSmall
import Derived.Lib.SlFresh
set_option linter.all false
set_option linter.unusedSimpArgs false
set_option linter.unusedVariables false
set_option linter.unusedSectionVars false
/- The library contracts of the kit, laid at this program by its own tool (lay-shelf, lay-plain); of these only what is used. -/
namespace Go.Proofs
open Go.Shelf Go.RowKit Go.Sort Go.Lib
theorem ks {f : Option Func} {a b : Func} (h : f = some a) (e : a = b := by kernel_rfl) : f = some b := h.trans (congrArg some e)
def Tryz.lays156_ren : Go.Shelf.Ren := ⟨fun | 156 => 165 | 165 => 186 | 166 => 187 | 169 => 191 | 240 => 204 | 241 => 205 | 276 => 218 | 277 => 219 | n => n, fun | 31 => 113 | 9 => 9 | 3 => 3 | 4 => 4 | 0 => 0 | 20 => 20 | 72 => 198 | 76 => 160 | 70 => 196 | 37 => 33 | 75 => 159 | 127 => 214 | 164 => 227 | 5 => 5 | 80 => 108 | n => n, fun | n => n⟩
theorem Tryz.lays156 : Go.Proofs.Lays.n156 Tryz.prog Tryz.lays156_ren := {
  mixed := by kernel_rfl
  f156 := ks Tryz.func165
  f165 := ks Tryz.func186
  f166 := ks Tryz.func187
  f169 := ks Tryz.func191
  f240 := ks Tryz.func204
  f241 := ks Tryz.func205
  f276 := ks Tryz.func218
  f277 := ks Tryz.func219
  t0 := Tryz.underlying0
  a0 := Tryz.isAgg0
  z0 := Tryz.sizeOf0
  v0 := Tryz.zeroValue0
  t3 := Tryz.underlying3
  a3 := Tryz.isAgg3
  z3 := Tryz.sizeOf3
  v3 := Tryz.zeroValue3
  t4 := Tryz.underlying4
  a4 := Tryz.isAgg4
  z4 := Tryz.sizeOf4
  v4 := Tryz.zeroValue4
  t9 := Tryz.underlying9
  a9 := Tryz.isAgg9
  z9 := Tryz.sizeOf9
  v9 := Tryz.zeroValue9
  t20 := Tryz.underlying20
  a20 := Tryz.isAgg20
  z20 := Tryz.sizeOf20
  v20 := Tryz.zeroValue20
  t31 := Tryz.underlying113
  a31 := Tryz.isAgg113
  z31 := Tryz.sizeOf113
  v31 := Tryz.zeroValue113
  t37 := Tryz.underlying33
  a37 := Tryz.isAgg33
  z37 := Tryz.sizeOf33
  v37 := Tryz.zeroValue33
  t70 := Tryz.underlying196
  a70 := Tryz.isAgg196
  z70 := Tryz.sizeOf196
  v70 := Tryz.zeroValue196
  t72 := Tryz.underlying198
  a72 := Tryz.isAgg198
  z72 := Tryz.sizeOf198
  v72 := Tryz.zeroValue198
  t75 := Tryz.underlying159
  a75 := Tryz.isAgg159
  z75 := Tryz.sizeOf159
  v75 := Tryz.zeroValue159
  t76 := Tryz.underlying160
  a76 := Tryz.isAgg160
  z76 := Tryz.sizeOf160
  v76 := Tryz.zeroValue160
  t127 := Tryz.underlying214
  a127 := Tryz.isAgg214
  z127 := Tryz.sizeOf214
  v127 := Tryz.zeroValue214
  t164 := Tryz.underlying227
  a164 := Tryz.isAgg227
  z164 := Tryz.sizeOf227
  v164 := Tryz.zeroValue227 }
theorem Tryz.Builder_Extra_156 : Builder.Extra Tryz.prog Tryz.lays156_ren := {
  sizeBuilder := by kernel_rfl
  liesBuilder := by kernel_rfl
  t5 := Tryz.underlying5
  a5 := Tryz.isAgg5
  z5 := Tryz.sizeOf5
  v5 := Tryz.zeroValue5
  infoByte := by kernel_rfl
  cellsByte := by kernel_rfl
  sizeByte := by kernel_rfl
  neB5 := by decide }
theorem Tryz.strings_Join_none (a : Option Addr) (c : Nat) (sep : ByteArray) (w : World) :
    Calls Tryz.prog 165 #[.slice a 0 c, .string sep] w fun e w' => e = .returned (.string ⟨#[]⟩) ∧ w' = w := Any.strings_Join_none Tryz.lays156 Tryz.Builder_Extra_156 a c sep w
theorem Tryz.strings_Join (bk o c : Nat) (xs : List ByteArray) (sep : ByteArray) (w : World) (hcells : ∀ (j : Nat) x, xs[j]? = some x → w.cell? ⟨bk, o + j, none⟩ = some (.string x)) (hbk : bk < w.heap.size) (hN : xs.length ≤ 140737488355328) (hcap : xs.length ≤ c) (hlen : (Lib.join (xs.map (·.data.toList)) sep.data.toList).length ≤ 140737488355328) :
    Calls Tryz.prog 165 #[.slice (some ⟨bk, o, none⟩) xs.length c, .string sep] w fun e w' => e = .returned (.string ⟨(Lib.join (xs.map (·.data.toList)) sep.data.toList).toArray⟩) ∧ Below w.heap.size w w' := Any.strings_Join Tryz.lays156 Tryz.Builder_Extra_156 bk o c xs sep w hcells hbk hN hcap hlen
def Tryz.lays137_ren : Go.Shelf.Ren := ⟨fun | 137 => 105 | 217 => 138 | 266 => 174 | n => n, fun | 9 => 9 | 5 => 5 | 3 => 3 | n => n, fun | n => n⟩
theorem Tryz.lays137 : Go.Proofs.Lays.n137 Tryz.prog Tryz.lays137_ren := {
  mixed := by kernel_rfl
  f137 := ks Tryz.func105
  f217 := ks Tryz.func138
  f266 := ks Tryz.func174
  t3 := Tryz.underlying3
  a3 := Tryz.isAgg3
  z3 := Tryz.sizeOf3
  v3 := Tryz.zeroValue3
  t5 := Tryz.underlying5
  a5 := Tryz.isAgg5
  z5 := Tryz.sizeOf5
  v5 := Tryz.zeroValue5
  t9 := Tryz.underlying9
  a9 := Tryz.isAgg9
  z9 := Tryz.sizeOf9
  v9 := Tryz.zeroValue9 }
theorem Tryz.strings_IndexByte (s : ByteArray) (c : Int) (w : World) :
    Calls Tryz.prog 105 #[.string s, .int .u8 c] w fun e w' => e = .returned (.int .i64 (Lib.indexByte s.data.toList c.toNat.toUInt8)) ∧ w' = w := Any.strings_IndexByte Tryz.lays137 s c w
def Tryz.laysM171_ren : Go.Shelf.Ren := ⟨fun | 171 => 155 | 243 => 192 | 246 => 207 | 283 => 221 | 284 => 222 | 285 => 223 | 286 => 224 | 129 => 226 | 317 => 225 | 318 => 227 | 319 => 228 | 320 => 229 | 337 => 230 | 338 => 231 | n => n, fun | 3 => 3 | 9 => 9 | 2 => 2 | 4 => 4 | 171 => 229 | 0 => 0 | 53 => 119 | 37 => 33 | 5 => 5 | 173 => 232 | 212 => 235 | 51 => 205 | 20 => 20 | 213 => 236 | 46 => 141 | 232 => 239 | 233 => 240 | n => n, fun | 17 => 5 | 18 => 6 | 19 => 7 | n => n⟩
theorem Tryz.laysM171 : Go.Proofs.LaysM.n171 Tryz.prog Tryz.laysM171_ren := {
  mixed := by kernel_rfl
  f129 := ks Tryz.func226
  f171 := ks Tryz.func155
  f243 := ks Tryz.func192
  f246 := ks Tryz.func207
  f283 := ks Tryz.func221
  f284 := ks Tryz.func222
  f285 := ks Tryz.func223
  f286 := ks Tryz.func224
  f317 := ks Tryz.func225
  f318 := ks Tryz.func227
  f319 := ks Tryz.func228
  f320 := ks Tryz.func229
  f337 := ks Tryz.func230
  f338 := ks Tryz.func231
  t0 := Tryz.underlying0
  a0 := Tryz.isAgg0
  z0 := Tryz.sizeOf0
  v0 := Tryz.zeroValue0
  t2 := Tryz.underlying2
  a2 := Tryz.isAgg2
  z2 := Tryz.sizeOf2
  v2 := Tryz.zeroValue2
  t3 := Tryz.underlying3
  a3 := Tryz.isAgg3
  z3 := Tryz.sizeOf3
  v3 := Tryz.zeroValue3
  t4 := Tryz.underlying4
  a4 := Tryz.isAgg4
  z4 := Tryz.sizeOf4
  v4 := Tryz.zeroValue4
  t5 := Tryz.underlying5
  a5 := Tryz.isAgg5
  z5 := Tryz.sizeOf5
  v5 := Tryz.zeroValue5
  t9 := Tryz.underlying9
  a9 := Tryz.isAgg9
  z9 := Tryz.sizeOf9
  v9 := Tryz.zeroValue9
  t20 := Tryz.underlying20
  a20 := Tryz.isAgg20
  z20 := Tryz.sizeOf20
  v20 := Tryz.zeroValue20
  t37 := Tryz.underlying33
  a37 := Tryz.isAgg33
  z37 := Tryz.sizeOf33
  v37 := Tryz.zeroValue33
  t46 := Tryz.underlying141
  a46 := Tryz.isAgg141
  z46 := Tryz.sizeOf141
  v46 := Tryz.zeroValue141
  t51 := Tryz.underlying205
  a51 := Tryz.isAgg205
  z51 := Tryz.sizeOf205
  v51 := Tryz.zeroValue205
  t53 := Tryz.underlying119
  a53 := Tryz.isAgg119
  z53 := Tryz.sizeOf119
  v53 := Tryz.zeroValue119
  t171 := Tryz.underlying229
  a171 := Tryz.isAgg229
  z171 := Tryz.sizeOf229
  v171 := Tryz.zeroValue229
  t173 := Tryz.underlying232
  a173 := Tryz.isAgg232
  z173 := Tryz.sizeOf232
  v173 := Tryz.zeroValue232
  t212 := Tryz.underlying235
  a212 := Tryz.isAgg235
  z212 := Tryz.sizeOf235
  v212 := Tryz.zeroValue235
  t213 := Tryz.underlying236
  a213 := Tryz.isAgg236
  z213 := Tryz.sizeOf236
  t232 := Tryz.underlying239
  a232 := Tryz.isAgg239
  z232 := Tryz.sizeOf239
  v232 := Tryz.zeroValue239
  t233 := Tryz.underlying240
  a233 := Tryz.isAgg240
  z233 := Tryz.sizeOf240
  v233 := Tryz.zeroValue240
  g17 := by kernel_rfl
  g18 := by kernel_rfl
  g19 := by kernel_rfl
  i0 := by kernel_rfl
  i2 := by kernel_rfl
  i3 := by kernel_rfl
  i4 := by kernel_rfl
  i5 := by kernel_rfl
  i9 := by kernel_rfl
  i20 := by kernel_rfl
  i37 := by kernel_rfl
  i46 := by kernel_rfl
  i51 := by kernel_rfl
  i53 := by kernel_rfl
  i171 := by kernel_rfl
  i173 := by kernel_rfl
  i212 := by kernel_rfl
  i232 := by kernel_rfl
  i233 := by kernel_rfl
  m17 := by kernel_rfl
  m18 := by kernel_rfl
  m19 := by kernel_rfl }
theorem Tryz.strconv_Itoa (n : Int) (h0 : -9223372036854775808 ≤ n) (h1 : n ≤ 9223372036854775807) (w : World) (htab : Lib.TabIs Tryz.prog w "internal/strconv.uint64pow10" .u64 Lib.pow10Tab) :
    Calls Tryz.prog 155 #[.int .i64 n] w fun e w' => e = .returned (.string ⟨(Lib.itoa n).toArray⟩) ∧ ∃ k os, w' = grow (w.drewN k) os := Any.strconv_Itoa Tryz.laysM171 n h0 h1 w htab
def Tryz.laysC172_ren : Go.Shelf.Ren := ⟨fun | 172 => 113 | 244 => 146 | 245 => 147 | 247 => 177 | 279 => 178 | 280 => 179 | 281 => 180 | 282 => 181 | 287 => 199 | 316 => 200 | 171 => 155 | 205 => 201 | 321 => 215 | 322 => 216 | 243 => 192 | 246 => 207 | 283 => 221 | 284 => 222 | 285 => 223 | 286 => 224 | 129 => 226 | 317 => 225 | 318 => 227 | 319 => 228 | 320 => 229 | 337 => 230 | 338 => 231 | n => n, fun | 9 => 9 | 3 => 3 | 75 => 159 | 76 => 160 | 4 => 4 | 5 => 5 | 167 => 190 | 37 => 33 | 0 => 0 | 85 => 191 | 2 => 2 | 168 => 193 | 53 => 119 | 175 => 208 | 46 => 141 | 210 => 211 | 127 => 214 | 145 => 222 | 143 => 220 | 21 => 21 | 171 => 229 | 173 => 232 | 212 => 235 | 51 => 205 | 20 => 20 | 213 => 236 | 232 => 239 | 233 => 240 | 80 => 108 | n => n, fun | 15 => 1 | 16 => 2 | 17 => 5 | 18 => 6 | 19 => 7 | n => n⟩
theorem Tryz.laysC172 : Go.Proofs.LaysC.n172 Tryz.prog Tryz.laysC172_ren := {
  mixed := by kernel_rfl
  f129 := ks Tryz.func226
  f171 := ks Tryz.func155
  f172 := ks Tryz.func113
  f205 := ks Tryz.func201
  f243 := ks Tryz.func192
  f244 := ks Tryz.func146
  f245 := ks Tryz.func147
  f246 := ks Tryz.func207
  f247 := ks Tryz.func177
  f279 := ks Tryz.func178
  f280 := ks Tryz.func179
  f281 := ks Tryz.func180
  f282 := ks Tryz.func181
  f283 := ks Tryz.func221
  f284 := ks Tryz.func222
  f285 := ks Tryz.func223
  f286 := ks Tryz.func224
  f287 := ks Tryz.func199
  f316 := ks Tryz.func200
  f317 := ks Tryz.func225
  f318 := ks Tryz.func227
  f319 := ks Tryz.func228
  f320 := ks Tryz.func229
  f321 := ks Tryz.func215
  f322 := ks Tryz.func216
  f337 := ks Tryz.func230
  f338 := ks Tryz.func231
  t0 := Tryz.underlying0
  a0 := Tryz.isAgg0
  z0 := Tryz.sizeOf0
  v0 := Tryz.zeroValue0
  t2 := Tryz.underlying2
  a2 := Tryz.isAgg2
  z2 := Tryz.sizeOf2
  v2 := Tryz.zeroValue2
  t3 := Tryz.underlying3
  a3 := Tryz.isAgg3
  z3 := Tryz.sizeOf3
  v3 := Tryz.zeroValue3
  t4 := Tryz.underlying4
  a4 := Tryz.isAgg4
  z4 := Tryz.sizeOf4
  v4 := Tryz.zeroValue4
  t5 := Tryz.underlying5
  a5 := Tryz.isAgg5
  z5 := Tryz.sizeOf5
  v5 := Tryz.zeroValue5
  t9 := Tryz.underlying9
  a9 := Tryz.isAgg9
  z9 := Tryz.sizeOf9
  v9 := Tryz.zeroValue9
  t20 := Tryz.underlying20
  a20 := Tryz.isAgg20
  z20 := Tryz.sizeOf20
  v20 := Tryz.zeroValue20
  t21 := Tryz.underlying21
  a21 := Tryz.isAgg21
  z21 := Tryz.sizeOf21
  v21 := Tryz.zeroValue21
  t37 := Tryz.underlying33
  a37 := Tryz.isAgg33
  z37 := Tryz.sizeOf33
  v37 := Tryz.zeroValue33
  t46 := Tryz.underlying141
  a46 := Tryz.isAgg141
  z46 := Tryz.sizeOf141
  v46 := Tryz.zeroValue141
  t51 := Tryz.underlying205
  a51 := Tryz.isAgg205
  z51 := Tryz.sizeOf205
  v51 := Tryz.zeroValue205
  t53 := Tryz.underlying119
  a53 := Tryz.isAgg119
  z53 := Tryz.sizeOf119
  v53 := Tryz.zeroValue119
  t75 := Tryz.underlying159
  a75 := Tryz.isAgg159
  z75 := Tryz.sizeOf159
  v75 := Tryz.zeroValue159
  t76 := Tryz.underlying160
  a76 := Tryz.isAgg160
  z76 := Tryz.sizeOf160
  v76 := Tryz.zeroValue160
  t85 := Tryz.underlying191
  a85 := Tryz.isAgg191
  z85 := Tryz.sizeOf191
  v85 := Tryz.zeroValue191
  t127 := Tryz.underlying214
  a127 := Tryz.isAgg214
  z127 := Tryz.sizeOf214
  v127 := Tryz.zeroValue214
  t143 := Tryz.underlying220
  a143 := Tryz.isAgg220
  z143 := Tryz.sizeOf220
  v143 := Tryz.zeroValue220
  t145 := Tryz.underlying222
  a145 := Tryz.isAgg222
  z145 := Tryz.sizeOf222
  v145 := Tryz.zeroValue222
  t167 := Tryz.underlying190
  a167 := Tryz.isAgg190
  z167 := Tryz.sizeOf190
  v167 := Tryz.zeroValue190
  t168 := Tryz.underlying193
  a168 := Tryz.isAgg193
  z168 := Tryz.sizeOf193
  v168 := Tryz.zeroValue193
  t171 := Tryz.underlying229
  a171 := Tryz.isAgg229
  z171 := Tryz.sizeOf229
  v171 := Tryz.zeroValue229
  t173 := Tryz.underlying232
  a173 := Tryz.isAgg232
  z173 := Tryz.sizeOf232
  v173 := Tryz.zeroValue232
  t175 := Tryz.underlying208
  a175 := Tryz.isAgg208
  z175 := Tryz.sizeOf208
  v175 := Tryz.zeroValue208
  t210 := Tryz.underlying211
  a210 := Tryz.isAgg211
  z210 := Tryz.sizeOf211
  v210 := Tryz.zeroValue211
  t212 := Tryz.underlying235
  a212 := Tryz.isAgg235
  z212 := Tryz.sizeOf235
  v212 := Tryz.zeroValue235
  t213 := Tryz.underlying236
  a213 := Tryz.isAgg236
  z213 := Tryz.sizeOf236
  t232 := Tryz.underlying239
  a232 := Tryz.isAgg239
  z232 := Tryz.sizeOf239
  v232 := Tryz.zeroValue239
  t233 := Tryz.underlying240
  a233 := Tryz.isAgg240
  z233 := Tryz.sizeOf240
  v233 := Tryz.zeroValue240
  g15 := by kernel_rfl
  g16 := by kernel_rfl
  g17 := by kernel_rfl
  g18 := by kernel_rfl
  g19 := by kernel_rfl
  t80 := Tryz.underlying108
  a80 := Tryz.isAgg108
  z80 := Tryz.sizeOf108
  v80 := Tryz.zeroValue108
  i0 := by kernel_rfl
  i2 := by kernel_rfl
  i3 := by kernel_rfl
  i4 := by kernel_rfl
  i5 := by kernel_rfl
  i9 := by kernel_rfl
  i20 := by kernel_rfl
  i21 := by kernel_rfl
  i37 := by kernel_rfl
  i46 := by kernel_rfl
  i51 := by kernel_rfl
  i53 := by kernel_rfl
  i75 := by kernel_rfl
  i76 := by kernel_rfl
  i80 := by kernel_rfl
  i85 := by kernel_rfl
  i127 := by kernel_rfl
  i143 := by kernel_rfl
  i145 := by kernel_rfl
  i167 := by kernel_rfl
  i168 := by kernel_rfl
  i171 := by kernel_rfl
  i173 := by kernel_rfl
  i175 := by kernel_rfl
  i210 := by kernel_rfl
  i212 := by kernel_rfl
  i232 := by kernel_rfl
  i233 := by kernel_rfl
  m15 := by kernel_rfl
  m16 := by kernel_rfl
  m17 := by kernel_rfl
  m18 := by kernel_rfl
  m19 := by kernel_rfl
  c0 := by kernel_rfl
  c2 := by kernel_rfl
  c3 := by kernel_rfl
  c4 := by kernel_rfl
  c5 := by kernel_rfl
  c9 := by kernel_rfl
  c20 := by kernel_rfl
  c21 := by kernel_rfl
  c37 := by kernel_rfl
  c46 := by kernel_rfl
  c51 := by kernel_rfl
  c53 := by kernel_rfl
  c75 := by kernel_rfl
  c76 := by kernel_rfl
  c80 := by kernel_rfl
  c85 := by kernel_rfl
  c127 := by kernel_rfl
  c143 := by kernel_rfl
  c145 := by kernel_rfl
  c167 := by kernel_rfl
  c168 := by kernel_rfl
  c171 := by kernel_rfl
  c173 := by kernel_rfl
  c175 := by kernel_rfl
  c210 := by kernel_rfl
  c212 := by kernel_rfl
  c213 := by kernel_rfl
  c232 := by kernel_rfl
  c233 := by kernel_rfl }
theorem Tryz.strconv_Atoi_ok (s : ByteArray) (hmax : s.size ≤ 9223372036854775806) (v : Int) (h : Lib.atoiAll s.data.toList = .ok v) (w : World) :
    Calls Tryz.prog 113 #[.string s] w fun e w' => e = .returned (.tuple #[.int .i64 v, .nilIface]) ∧ (w' = w ∨ ∃ t, w' = Lib.bytesWorld w 5 t) := Any.strconv_Atoi_ok Tryz.laysC172 s hmax v h w
theorem Tryz.strconv_Atoi_range (s : ByteArray) (hlim : s.size ≤ 281474976710656) (h : Lib.atoiAll s.data.toList = .range) (ev : Value) (w : World) (hv : w.cell? ⟨2, 0, none⟩ = some ev) (hev : ev = .nilIface ∨ ∃ te pe, ev = .iface te pe) :
    Calls Tryz.prog 113 #[.string s] w fun e w' => ∃ N, e = .returned (.tuple #[.int .i64 (Lib.atoiSat s.data.toList), .iface 193 (.pointer (some ⟨N, 0, none⟩))]) ∧ w.heap.size ≤ N ∧ w'.heap[N]? = some (.cells #[.string ⟨#[65, 116, 111, 105]⟩, .string s, ev] 211 (0, 0)) ∧ Below w.heap.size w w' := Any.strconv_Atoi_range Tryz.laysC172 s hlim h ev w hv hev
def Tryz.lays217_ren : Go.Shelf.Ren := ⟨fun | 217 => 138 | 266 => 174 | n => n, fun | 9 => 9 | 5 => 5 | 3 => 3 | n => n, fun | n => n⟩
theorem Tryz.lays217 : Go.Proofs.Lays.n217 Tryz.prog Tryz.lays217_ren := {
  mixed := by kernel_rfl
  f217 := ks Tryz.func138
  f266 := ks Tryz.func174
  t3 := Tryz.underlying3
  a3 := Tryz.isAgg3
  z3 := Tryz.sizeOf3
  v3 := Tryz.zeroValue3
  t5 := Tryz.underlying5
  a5 := Tryz.isAgg5
  z5 := Tryz.sizeOf5
  v5 := Tryz.zeroValue5
  t9 := Tryz.underlying9
  a9 := Tryz.isAgg9
  z9 := Tryz.sizeOf9
  v9 := Tryz.zeroValue9 }
theorem Tryz.stringslite_IndexByte (s : ByteArray) (c : Int) (w : World) :
    Calls Tryz.prog 138 #[.string s, .int .u8 c] w fun e w' => e = .returned (.int .i64 (Lib.indexByte s.data.toList c.toNat.toUInt8)) ∧ w' = w := Any.stringslite_IndexByte Tryz.lays217 s c w
def Tryz.lays219_ren : Go.Shelf.Ren := ⟨fun | 219 => 173 | 217 => 138 | 225 => 176 | 224 => 171 | 267 => 198 | 266 => 174 | 314 => 214 | n => n, fun | 9 => 9 | 3 => 3 | 4 => 4 | 5 => 5 | 46 => 141 | 146 => 206 | 51 => 205 | n => n, fun | 1 => 0 | n => n⟩
theorem Tryz.lays219 : Go.Proofs.Lays.n219 Tryz.prog Tryz.lays219_ren := {
  mixed := by kernel_rfl
  f217 := ks Tryz.func138
  f219 := ks Tryz.func173
  f224 := ks Tryz.func171
  f225 := ks Tryz.func176
  f266 := ks Tryz.func174
  f267 := ks Tryz.func198
  f314 := ks Tryz.func214
  t3 := Tryz.underlying3
  a3 := Tryz.isAgg3
  z3 := Tryz.sizeOf3
  v3 := Tryz.zeroValue3
  t4 := Tryz.underlying4
  a4 := Tryz.isAgg4
  z4 := Tryz.sizeOf4
  v4 := Tryz.zeroValue4
  t5 := Tryz.underlying5
  a5 := Tryz.isAgg5
  z5 := Tryz.sizeOf5
  v5 := Tryz.zeroValue5
  t9 := Tryz.underlying9
  a9 := Tryz.isAgg9
  z9 := Tryz.sizeOf9
  v9 := Tryz.zeroValue9
  t46 := Tryz.underlying141
  a46 := Tryz.isAgg141
  z46 := Tryz.sizeOf141
  v46 := Tryz.zeroValue141
  t51 := Tryz.underlying205
  a51 := Tryz.isAgg205
  z51 := Tryz.sizeOf205
  v51 := Tryz.zeroValue205
  t146 := Tryz.underlying206
  a146 := Tryz.isAgg206
  z146 := Tryz.sizeOf206
  v146 := Tryz.zeroValue206
  g1 := by kernel_rfl }
theorem Tryz.stringslite_Index_one (s : ByteArray) (c : UInt8) (w : World) :
    Calls Tryz.prog 173 #[.string s, .string ⟨#[c]⟩] w fun e w' => e = .returned (.int .i64 (Lib.indexByte s.data.toList c)) ∧ w' = w := Any.stringslite_Index_one Tryz.lays219 s c w
def Tryz.lays143_ren : Go.Shelf.Ren := ⟨fun | 143 => 159 | 219 => 173 | 217 => 138 | 225 => 176 | 224 => 171 | 267 => 198 | 266 => 174 | 314 => 214 | n => n, fun | 9 => 9 | 3 => 3 | 4 => 4 | 5 => 5 | 46 => 141 | 146 => 206 | 51 => 205 | n => n, fun | 1 => 0 | n => n⟩
theorem Tryz.lays143 : Go.Proofs.Lays.n143 Tryz.prog Tryz.lays143_ren := {
  mixed := by kernel_rfl
  f143 := ks Tryz.func159
  f217 := ks Tryz.func138
  f219 := ks Tryz.func173
  f224 := ks Tryz.func171
  f225 := ks Tryz.func176
  f266 := ks Tryz.func174
  f267 := ks Tryz.func198
  f314 := ks Tryz.func214
  t3 := Tryz.underlying3
  a3 := Tryz.isAgg3
  z3 := Tryz.sizeOf3
  v3 := Tryz.zeroValue3
  t4 := Tryz.underlying4
  a4 := Tryz.isAgg4
  z4 := Tryz.sizeOf4
  v4 := Tryz.zeroValue4
  t5 := Tryz.underlying5
  a5 := Tryz.isAgg5
  z5 := Tryz.sizeOf5
  v5 := Tryz.zeroValue5
  t9 := Tryz.underlying9
  a9 := Tryz.isAgg9
  z9 := Tryz.sizeOf9
  v9 := Tryz.zeroValue9
  t46 := Tryz.underlying141
  a46 := Tryz.isAgg141
  z46 := Tryz.sizeOf141
  v46 := Tryz.zeroValue141
  t51 := Tryz.underlying205
  a51 := Tryz.isAgg205
  z51 := Tryz.sizeOf205
  v51 := Tryz.zeroValue205
  t146 := Tryz.underlying206
  a146 := Tryz.isAgg206
  z146 := Tryz.sizeOf206
  v146 := Tryz.zeroValue206
  g1 := by kernel_rfl }
theorem Tryz.strings_Index_one (s : ByteArray) (c : UInt8) (w : World) :
    Calls Tryz.prog 159 #[.string s, .string ⟨#[c]⟩] w fun e w' => e = .returned (.int .i64 (Lib.indexByte s.data.toList c)) ∧ w' = w := Any.strings_Index_one Tryz.lays143 s c w
def Tryz.lays138_ren : Go.Shelf.Ren := ⟨fun | 138 => 158 | 195 => 168 | 218 => 193 | 143 => 159 | 219 => 173 | 217 => 138 | 225 => 176 | 224 => 171 | 267 => 198 | 266 => 174 | 314 => 214 | n => n, fun | 9 => 9 | 3 => 3 | 4 => 4 | 5 => 5 | 0 => 0 | 46 => 141 | 146 => 206 | 51 => 205 | n => n, fun | 1 => 0 | n => n⟩
theorem Tryz.lays138 : Go.Proofs.Lays.n138 Tryz.prog Tryz.lays138_ren := {
  mixed := by kernel_rfl
  f138 := ks Tryz.func158
  f143 := ks Tryz.func159
  f195 := ks Tryz.func168
  f217 := ks Tryz.func138
  f218 := ks Tryz.func193
  f219 := ks Tryz.func173
  f224 := ks Tryz.func171
  f225 := ks Tryz.func176
  f266 := ks Tryz.func174
  f267 := ks Tryz.func198
  f314 := ks Tryz.func214
  t0 := Tryz.underlying0
  a0 := Tryz.isAgg0
  z0 := Tryz.sizeOf0
  v0 := Tryz.zeroValue0
  t3 := Tryz.underlying3
  a3 := Tryz.isAgg3
  z3 := Tryz.sizeOf3
  v3 := Tryz.zeroValue3
  t4 := Tryz.underlying4
  a4 := Tryz.isAgg4
  z4 := Tryz.sizeOf4
  v4 := Tryz.zeroValue4
  t5 := Tryz.underlying5
  a5 := Tryz.isAgg5
  z5 := Tryz.sizeOf5
  v5 := Tryz.zeroValue5
  t9 := Tryz.underlying9
  a9 := Tryz.isAgg9
  z9 := Tryz.sizeOf9
  v9 := Tryz.zeroValue9
  t46 := Tryz.underlying141
  a46 := Tryz.isAgg141
  z46 := Tryz.sizeOf141
  v46 := Tryz.zeroValue141
  t51 := Tryz.underlying205
  a51 := Tryz.isAgg205
  z51 := Tryz.sizeOf205
  v51 := Tryz.zeroValue205
  t146 := Tryz.underlying206
  a146 := Tryz.isAgg206
  z146 := Tryz.sizeOf206
  v146 := Tryz.zeroValue206
  g1 := by kernel_rfl }
theorem Tryz.strings_Count_one (s : ByteArray) (c : UInt8) (w : World) :
    Calls Tryz.prog 158 #[.string s, .string ⟨#[c]⟩] w fun e w' => e = .returned (.int .i64 (Lib.countByte s.data.toList c)) ∧ w' = w := Any.strings_Count_one Tryz.lays138 s c w
def Tryz.laysM138_ren : Go.Shelf.Ren := ⟨fun | 138 => 158 | 195 => 168 | 218 => 193 | 143 => 159 | 219 => 173 | 217 => 138 | 225 => 176 | 224 => 171 | 267 => 198 | 266 => 174 | 314 => 214 | n => n, fun | 9 => 9 | 3 => 3 | 4 => 4 | 5 => 5 | 0 => 0 | 46 => 141 | 146 => 206 | 51 => 205 | n => n, fun | 1 => 0 | n => n⟩
theorem Tryz.laysM138 : Go.Proofs.LaysM.n138 Tryz.prog Tryz.laysM138_ren := {
  mixed := by kernel_rfl
  f138 := ks Tryz.func158
  f143 := ks Tryz.func159
  f195 := ks Tryz.func168
  f217 := ks Tryz.func138
  f218 := ks Tryz.func193
  f219 := ks Tryz.func173
  f224 := ks Tryz.func171
  f225 := ks Tryz.func176
  f266 := ks Tryz.func174
  f267 := ks Tryz.func198
  f314 := ks Tryz.func214
  t0 := Tryz.underlying0
  a0 := Tryz.isAgg0
  z0 := Tryz.sizeOf0
  v0 := Tryz.zeroValue0
  t3 := Tryz.underlying3
  a3 := Tryz.isAgg3
  z3 := Tryz.sizeOf3
  v3 := Tryz.zeroValue3
  t4 := Tryz.underlying4
  a4 := Tryz.isAgg4
  z4 := Tryz.sizeOf4
  v4 := Tryz.zeroValue4
  t5 := Tryz.underlying5
  a5 := Tryz.isAgg5
  z5 := Tryz.sizeOf5
  v5 := Tryz.zeroValue5
  t9 := Tryz.underlying9
  a9 := Tryz.isAgg9
  z9 := Tryz.sizeOf9
  v9 := Tryz.zeroValue9
  t46 := Tryz.underlying141
  a46 := Tryz.isAgg141
  z46 := Tryz.sizeOf141
  v46 := Tryz.zeroValue141
  t51 := Tryz.underlying205
  a51 := Tryz.isAgg205
  z51 := Tryz.sizeOf205
  v51 := Tryz.zeroValue205
  t146 := Tryz.underlying206
  a146 := Tryz.isAgg206
  z146 := Tryz.sizeOf206
  v146 := Tryz.zeroValue206
  g1 := by kernel_rfl
  i0 := by kernel_rfl
  i3 := by kernel_rfl
  i4 := by kernel_rfl
  i5 := by kernel_rfl
  i9 := by kernel_rfl
  i46 := by kernel_rfl
  i51 := by kernel_rfl
  i146 := by kernel_rfl
  m1 := by kernel_rfl
  s1_3 := fun w h => Go.Proofs.cell_of_shapedOpen_int (zero := #[.int .i64 0]) (t := 3) h (of_decide_eq_true (by kernel_rfl)) (by kernel_rfl) rfl (by kernel_rfl) (by kernel_rfl) Tryz.underlying3 }
def Tryz.lays260_ren : Go.Shelf.Ren := ⟨fun | 260 => 203 | n => n, fun | 9 => 9 | 21 => 21 | 3 => 3 | 4 => 4 | 5 => 5 | 119 => 223 | 0 => 0 | 46 => 141 | 139 => 226 | 138 => 225 | n => n, fun | 3 => 3 | 4 => 4 | n => n⟩
theorem Tryz.lays260 : Go.Proofs.Lays.n260 Tryz.prog Tryz.lays260_ren := {
  mixed := by kernel_rfl
  f260 := ks Tryz.func203
  t0 := Tryz.underlying0
  a0 := Tryz.isAgg0
  z0 := Tryz.sizeOf0
  v0 := Tryz.zeroValue0
  t3 := Tryz.underlying3
  a3 := Tryz.isAgg3
  z3 := Tryz.sizeOf3
  v3 := Tryz.zeroValue3
  t4 := Tryz.underlying4
  a4 := Tryz.isAgg4
  z4 := Tryz.sizeOf4
  v4 := Tryz.zeroValue4
  t5 := Tryz.underlying5
  a5 := Tryz.isAgg5
  z5 := Tryz.sizeOf5
  v5 := Tryz.zeroValue5
  t9 := Tryz.underlying9
  a9 := Tryz.isAgg9
  z9 := Tryz.sizeOf9
  v9 := Tryz.zeroValue9
  t21 := Tryz.underlying21
  a21 := Tryz.isAgg21
  z21 := Tryz.sizeOf21
  v21 := Tryz.zeroValue21
  t46 := Tryz.underlying141
  a46 := Tryz.isAgg141
  z46 := Tryz.sizeOf141
  v46 := Tryz.zeroValue141
  t119 := Tryz.underlying223
  a119 := Tryz.isAgg223
  z119 := Tryz.sizeOf223
  t138 := Tryz.underlying225
  a138 := Tryz.isAgg225
  z138 := Tryz.sizeOf225
  v138 := Tryz.zeroValue225
  t139 := Tryz.underlying226
  a139 := Tryz.isAgg226
  z139 := Tryz.sizeOf226
  v139 := Tryz.zeroValue226
  g3 := by kernel_rfl
  g4 := by kernel_rfl }
def Tryz.lays271_ren : Go.Shelf.Ren := ⟨fun | 271 => 202 | 120 => 217 | 197 => 184 | 260 => 203 | n => n, fun | 9 => 9 | 21 => 21 | 3 => 3 | 4 => 4 | 5 => 5 | 105 => 199 | 119 => 223 | 0 => 0 | 46 => 141 | 139 => 226 | 138 => 225 | n => n, fun | 3 => 3 | 4 => 4 | n => n⟩
theorem Tryz.lays271 : Go.Proofs.Lays.n271 Tryz.prog Tryz.lays271_ren := {
  mixed := by kernel_rfl
  f120 := ks Tryz.func217
  f197 := ks Tryz.func184
  f260 := ks Tryz.func203
  f271 := ks Tryz.func202
  t0 := Tryz.underlying0
  a0 := Tryz.isAgg0
  z0 := Tryz.sizeOf0
  v0 := Tryz.zeroValue0
  t3 := Tryz.underlying3
  a3 := Tryz.isAgg3
  z3 := Tryz.sizeOf3
  v3 := Tryz.zeroValue3
  t4 := Tryz.underlying4
  a4 := Tryz.isAgg4
  z4 := Tryz.sizeOf4
  v4 := Tryz.zeroValue4
  t5 := Tryz.underlying5
  a5 := Tryz.isAgg5
  z5 := Tryz.sizeOf5
  v5 := Tryz.zeroValue5
  t9 := Tryz.underlying9
  a9 := Tryz.isAgg9
  z9 := Tryz.sizeOf9
  v9 := Tryz.zeroValue9
  t21 := Tryz.underlying21
  a21 := Tryz.isAgg21
  z21 := Tryz.sizeOf21
  v21 := Tryz.zeroValue21
  t46 := Tryz.underlying141
  a46 := Tryz.isAgg141
  z46 := Tryz.sizeOf141
  v46 := Tryz.zeroValue141
  t105 := Tryz.underlying199
  a105 := Tryz.isAgg199
  z105 := Tryz.sizeOf199
  v105 := Tryz.zeroValue199
  t119 := Tryz.underlying223
  a119 := Tryz.isAgg223
  z119 := Tryz.sizeOf223
  t138 := Tryz.underlying225
  a138 := Tryz.isAgg225
  z138 := Tryz.sizeOf225
  v138 := Tryz.zeroValue225
  t139 := Tryz.underlying226
  a139 := Tryz.isAgg226
  z139 := Tryz.sizeOf226
  v139 := Tryz.zeroValue226
  g3 := by kernel_rfl
  g4 := by kernel_rfl }
theorem Tryz.utf8_DecodeLastRuneInString (s : ByteArray) (w : World) (hs : s.size ≤ 9223372036854775807) (hT : Lib.Utf8Tabs 3 4 w) :
    Calls Tryz.prog 202 #[.string s] w fun e w' => e = .returned (.tuple #[.int .i32 (Lib.decodeLastL s.data.toList).1, .int .i64 (Lib.decodeLastL s.data.toList).2]) ∧ Below w.heap.size w w' := Any.utf8_DecodeLastRuneInString Tryz.lays271 s w hs hT
def Tryz.lays230_ren : Go.Shelf.Ren := ⟨fun | 230 => 152 | 197 => 184 | 118 => 185 | 165 => 186 | 166 => 187 | 168 => 188 | 270 => 189 | 167 => 190 | 169 => 191 | 260 => 203 | 240 => 204 | 241 => 205 | 242 => 206 | 276 => 218 | 277 => 219 | 278 => 220 | n => n, fun | 107 => 182 | 9 => 9 | 72 => 198 | 0 => 0 | 4 => 4 | 3 => 3 | 21 => 21 | 105 => 199 | 76 => 160 | 5 => 5 | 75 => 159 | 70 => 196 | 20 => 20 | 37 => 33 | 127 => 214 | 119 => 223 | 46 => 141 | 139 => 226 | 138 => 225 | 164 => 227 | 51 => 205 | 80 => 108 | n => n, fun | 3 => 3 | 4 => 4 | n => n⟩
theorem Tryz.lays230 : Go.Proofs.Lays.n230 Tryz.prog Tryz.lays230_ren := {
  mixed := by kernel_rfl
  f118 := ks Tryz.func185
  f165 := ks Tryz.func186
  f166 := ks Tryz.func187
  f167 := ks Tryz.func190
  f168 := ks Tryz.func188
  f169 := ks Tryz.func191
  f197 := ks Tryz.func184
  f230 := ks Tryz.func152
  f240 := ks Tryz.func204
  f241 := ks Tryz.func205
  f242 := ks Tryz.func206
  f260 := ks Tryz.func203
  f270 := ks Tryz.func189
  f276 := ks Tryz.func218
  f277 := ks Tryz.func219
  f278 := ks Tryz.func220
  t0 := Tryz.underlying0
  a0 := Tryz.isAgg0
  z0 := Tryz.sizeOf0
  v0 := Tryz.zeroValue0
  t3 := Tryz.underlying3
  a3 := Tryz.isAgg3
  z3 := Tryz.sizeOf3
  v3 := Tryz.zeroValue3
  t4 := Tryz.underlying4
  a4 := Tryz.isAgg4
  z4 := Tryz.sizeOf4
  v4 := Tryz.zeroValue4
  t5 := Tryz.underlying5
  a5 := Tryz.isAgg5
  z5 := Tryz.sizeOf5
  v5 := Tryz.zeroValue5
  t9 := Tryz.underlying9
  a9 := Tryz.isAgg9
  z9 := Tryz.sizeOf9
  v9 := Tryz.zeroValue9
  t20 := Tryz.underlying20
  a20 := Tryz.isAgg20
  z20 := Tryz.sizeOf20
  v20 := Tryz.zeroValue20
  t21 := Tryz.underlying21
  a21 := Tryz.isAgg21
  z21 := Tryz.sizeOf21
  v21 := Tryz.zeroValue21
  t37 := Tryz.underlying33
  a37 := Tryz.isAgg33
  z37 := Tryz.sizeOf33
  v37 := Tryz.zeroValue33
  t46 := Tryz.underlying141
  a46 := Tryz.isAgg141
  z46 := Tryz.sizeOf141
  v46 := Tryz.zeroValue141
  t51 := Tryz.underlying205
  a51 := Tryz.isAgg205
  z51 := Tryz.sizeOf205
  v51 := Tryz.zeroValue205
  t70 := Tryz.underlying196
  a70 := Tryz.isAgg196
  z70 := Tryz.sizeOf196
  v70 := Tryz.zeroValue196
  t72 := Tryz.underlying198
  a72 := Tryz.isAgg198
  z72 := Tryz.sizeOf198
  v72 := Tryz.zeroValue198
  t75 := Tryz.underlying159
  a75 := Tryz.isAgg159
  z75 := Tryz.sizeOf159
  v75 := Tryz.zeroValue159
  t76 := Tryz.underlying160
  a76 := Tryz.isAgg160
  z76 := Tryz.sizeOf160
  v76 := Tryz.zeroValue160
  t105 := Tryz.underlying199
  a105 := Tryz.isAgg199
  z105 := Tryz.sizeOf199
  v105 := Tryz.zeroValue199
  t107 := Tryz.underlying182
  a107 := Tryz.isAgg182
  z107 := Tryz.sizeOf182
  v107 := Tryz.zeroValue182
  t119 := Tryz.underlying223
  a119 := Tryz.isAgg223
  z119 := Tryz.sizeOf223
  t127 := Tryz.underlying214
  a127 := Tryz.isAgg214
  z127 := Tryz.sizeOf214
  v127 := Tryz.zeroValue214
  t138 := Tryz.underlying225
  a138 := Tryz.isAgg225
  z138 := Tryz.sizeOf225
  v138 := Tryz.zeroValue225
  t139 := Tryz.underlying226
  a139 := Tryz.isAgg226
  z139 := Tryz.sizeOf226
  v139 := Tryz.zeroValue226
  t164 := Tryz.underlying227
  a164 := Tryz.isAgg227
  z164 := Tryz.sizeOf227
  v164 := Tryz.zeroValue227
  g3 := by kernel_rfl
  g4 := by kernel_rfl }
theorem Tryz.Builder_Extra_230 : Builder.Extra Tryz.prog Tryz.lays230_ren := {
  sizeBuilder := by kernel_rfl
  liesBuilder := by kernel_rfl
  t5 := Tryz.underlying5
  a5 := Tryz.isAgg5
  z5 := Tryz.sizeOf5
  v5 := Tryz.zeroValue5
  infoByte := by kernel_rfl
  cellsByte := by kernel_rfl
  sizeByte := by kernel_rfl
  neB5 := by decide }
theorem Tryz.strings_Map_grows (g : Nat) (lb : Array Value) (eg : ∀ args w, (callFunc g args).run Tryz.prog w = .ok (.enter g args) w) (f : Int → Int) (s : ByteArray) (w : World) (hs : s.size < 35184372088832) (hf : MapGrows Tryz.prog g lb f w) (hnn : ∀ x : Nat, x ≤ 1114111 → -2147483648 ≤ f x ∧ f x ≤ 2147483647) (hT : Lib.Utf8Tabs 3 4 w) :
    Calls Tryz.prog 152 #[.func (.func g) #[] lb, .string s] w fun e w' => e = .returned (.string ⟨(Lib.mapD f s.data.toList).toArray⟩) ∧ Below w.heap.size w w' := Any.strings_Map_grows Tryz.lays230 Tryz.Builder_Extra_230 g lb eg f s w hs hf hnn hT
def Tryz.laysSlB13_ren : Go.Shelf.Ren := ⟨fun | 13 => 102 | 24 => 134 | 25 => 135 | 12 => 136 | 31 => 168 | 19 => 169 | 20 => 57 | 21 => 170 | 22 => 171 | 23 => 172 | 29 => 196 | 30 => 197 | n => n, fun | 22 => 33 | 3 => 3 | 4 => 4 | 0 => 0 | 5 => 5 | 9 => 9 | 33 => 141 | 40 => 206 | 39 => 205 | n => n, fun | 0 => 0 | n => n⟩
theorem Tryz.laysSlB13 : Go.Proofs.SlLaysB.n13 Tryz.prog Tryz.laysSlB13_ren := {
  mixed := by kernel_rfl
  f13 := ks Tryz.func102
  f25 := ks Tryz.func135
  t0 := Tryz.underlying0
  a0 := Tryz.isAgg0
  z0 := Tryz.sizeOf0
  v0 := Tryz.zeroValue0
  t3 := Tryz.underlying3
  a3 := Tryz.isAgg3
  z3 := Tryz.sizeOf3
  v3 := Tryz.zeroValue3
  t4 := Tryz.underlying4
  a4 := Tryz.isAgg4
  z4 := Tryz.sizeOf4
  v4 := Tryz.zeroValue4
  t5 := Tryz.underlying5
  a5 := Tryz.isAgg5
  z5 := Tryz.sizeOf5
  v5 := Tryz.zeroValue5
  t22 := Tryz.underlying33
  a22 := Tryz.isAgg33
  z22 := Tryz.sizeOf33
  v22 := Tryz.zeroValue33 }
theorem Tryz.bytes_Count_one_nil (b2 o2 d : Nat) (cv : Int) (w : World) (hc2 : w.cell? ⟨b2, o2, none⟩ = some (.int .u8 cv)) :
    Calls Tryz.prog 102 #[.slice none 0 0, .slice (some ⟨b2, o2, none⟩) 1 d] w fun e w' => e = .returned (.int .i64 0) ∧ w' = w := Any.bytes_Count_one_nil Tryz.laysSlB13 b2 o2 d cv w hc2
def Tryz.laysSlC13_ren : Go.Shelf.Ren := ⟨fun | 13 => 102 | 24 => 134 | 25 => 135 | 12 => 136 | 31 => 168 | 19 => 169 | 20 => 57 | 21 => 170 | 22 => 171 | 23 => 172 | 29 => 196 | 30 => 197 | n => n, fun | 22 => 33 | 3 => 3 | 4 => 4 | 0 => 0 | 5 => 5 | 9 => 9 | 33 => 141 | 40 => 206 | 39 => 205 | n => n, fun | 0 => 0 | n => n⟩
theorem Tryz.laysSlC13 : Go.Proofs.SlLaysC.n13 Tryz.prog Tryz.laysSlC13_ren := {
  mixed := by kernel_rfl
  f12 := ks Tryz.func136
  f13 := ks Tryz.func102
  f19 := ks Tryz.func169
  f20 := ks Tryz.func57
  f21 := ks Tryz.func170
  f22 := ks Tryz.func171
  f23 := ks Tryz.func172
  f25 := ks Tryz.func135
  f29 := ks Tryz.func196
  f30 := ks Tryz.func197
  t0 := Tryz.underlying0
  a0 := Tryz.isAgg0
  z0 := Tryz.sizeOf0
  v0 := Tryz.zeroValue0
  t3 := Tryz.underlying3
  a3 := Tryz.isAgg3
  z3 := Tryz.sizeOf3
  v3 := Tryz.zeroValue3
  t4 := Tryz.underlying4
  a4 := Tryz.isAgg4
  z4 := Tryz.sizeOf4
  v4 := Tryz.zeroValue4
  t5 := Tryz.underlying5
  a5 := Tryz.isAgg5
  z5 := Tryz.sizeOf5
  v5 := Tryz.zeroValue5
  t9 := Tryz.underlying9
  a9 := Tryz.isAgg9
  z9 := Tryz.sizeOf9
  v9 := Tryz.zeroValue9
  t22 := Tryz.underlying33
  a22 := Tryz.isAgg33
  z22 := Tryz.sizeOf33
  v22 := Tryz.zeroValue33
  t33 := Tryz.underlying141
  a33 := Tryz.isAgg141
  z33 := Tryz.sizeOf141
  v33 := Tryz.zeroValue141
  t39 := Tryz.underlying205
  a39 := Tryz.isAgg205
  z39 := Tryz.sizeOf205
  v39 := Tryz.zeroValue205
  t40 := Tryz.underlying206
  a40 := Tryz.isAgg206
  z40 := Tryz.sizeOf206
  v40 := Tryz.zeroValue206
  g0 := by kernel_rfl }
theorem Tryz.bytes_Count_nil (p2 : Option Addr) (k c2 : Nat) (w : World) (h2 : 2 ≤ k) (hk : k ≤ 9223372036854775807) :
    Calls Tryz.prog 102 #[.slice none 0 0, .slice p2 k c2] w fun e w' => e = .returned (.int .i64 0) ∧ w' = w := Any.bytes_Count_nil Tryz.laysSlC13 p2 k c2 w h2 hk
theorem Tryz.bytes_Count_any (a1 a2 : Addr) (n c1 k c2 : Nat) (xs ys : List Int) (m : Int) (w : World) (hx : xs.length = n) (hy : ys.length = k) (hr1 : ∀ x ∈ xs, 0 ≤ x ∧ x < 256) (hr2 : ∀ y ∈ ys, 0 ≤ y ∧ y < 256) (hc1 : ∀ i, i < n → w.cell? (a1.add i) = some (.int .u8 (xs.getD i 0))) (hc2 : ∀ i, i < k → w.cell? (a2.add i) = some (.int .u8 (ys.getD i 0))) (hcap : n ≤ c1) (hs : n < 4294967281) (hk : k ≤ 9223372036854775807) (h1 : 1 ≤ k) (hm : w.cell? ⟨0, 0, none⟩ = some (.int .i64 m)) :
    Calls Tryz.prog 102 #[.slice (some a1) n c1, .slice (some a2) k c2] w fun e w' => e = .returned (.int .i64 (Lib.count (Lib.bytesOf xs) (Lib.bytesOf ys))) ∧ ∃ q, w' = w.drewN q := Any.bytes_Count_any Tryz.laysSlC13 a1 a2 n c1 k c2 xs ys m w hx hy hr1 hr2 hc1 hc2 hcap hs hk h1 hm
end Go.Proofs

namespace Go.AM.Z0
open Go Go.AM Go.AM.Z Go.Proofs
set_option maxRecDepth 100000
def some4 : List Nat := [142, 153, 154, 175]
def cl : FuncId → Nat := fun f => cond (Nat.ble 1000000 f) (cond (isIn (f - 1000000) some4) 1 0) (cond (isIn f some4 || Nat.beq f 105) 1 0)
def X : Exts := fun f => match f with
  | 105 => some (exG gIndexByte)
  | _ => none
noncomputable abbrev F := limF Tryz.prog cl X
theorem cl_big (n : Nat) (h : Nat.ble 1000000 n = true) : Nat.beq (cl n) 9 = false := by
  unfold cl
  rw [h, cond_true]
  generalize isIn (n - 1000000) some4 = b
  cases b <;> rfl
theorem isF_cl (id : Nat) (d : Nat) : isF cl id (some d) = false := cl_big _ (Nat.ble_eq_true_of_le (by omega))
attribute [go_sem] isF_cl
theorem FIndexByte (s : List UInt8) (c : Int) (h : 0 ≤ c ∧ c < 256) (p : Nat) (H : Heap) : F 105 #[str s, .int .u8 c] p H = some (.returned (.int .i64 (Lib.indexByte s (UInt8.ofNat c.toNat))), H) := by
  rw [F, F_ext (f := 105) (X := X) rfl]
  exact exG_some _ _ (by unfold gIndexByte; exact if_pos h)
theorem F88 (x : Int) (p : Nat) (H : Heap) : ∃ b, F 175 #[.int .i32 x] p H = some (.returned (.bool b), H) := by
  rw [F, F_pure (f := 175) (X := X) (cl := cl) rfl rfl rfl Tryz.func175 rfl (by simp only [go_sem]), Tryz.results175]
  simp only [go_sem]
  repeat' (generalize hz : pickB _ _ _ _ _ = z; rcases pickB_cases hz with ⟨h, rfl⟩ | ⟨h, rfl⟩ <;> clear hz <;> (try simp only [go_sem] at h) <;> simp only [go_sem, h])
  all_goals exact ⟨_, rfl⟩
theorem F70 (s : List UInt8) (hs : s.length ≤ 1000000) (ha : ∀ b ∈ s, b.toNat < 128) (x : Nat) (p : Nat) (H : Heap) : F 142 #[str s, .int .i32 x] p H = some (.returned (.int .i64 (if x < 128 then Lib.indexByte s (UInt8.ofNat x) else -1)), H) := by
  rw [F, F_pure (f := 142) (X := X) (cl := cl) rfl rfl rfl Tryz.func142 rfl (by simp only [go_sem]), Tryz.results142]
  have h0 : (0 : Int) ≤ x := by omega
  by_cases hx : x < 128
  · have hx' : (x : Int) < 128 := by omega
    rw [if_pos hx]
    simp (disch := first | omega | (simp only [go_sem]; done) | fail) only [go_sem, h0, hx', cv21_5Z, FIndexByte]
  · have hx' : ¬ (x : Int) < 128 := by omega
    rw [if_neg hx]
    by_cases he : (x : Int) = 65533
    · simp (disch := first | omega | (simp only [go_sem]; done) | fail) only [go_sem, h0, hx', he]
      generalize hL : Code.loop _ = L
      have key : ∀ (k q : Nat) (t : Nat → Value) (H : Heap), s.length < q + k → H[0]? = some (itB s q) → t 175 = .pointer (some ⟨0, 0, some 0⟩) →
          ∃ t' H', limR Tryz.prog cl X L 0 ⟨t, [], H⟩ = some (.exit 9, ⟨t', [], H'⟩) := by
        intro k
        induction k with
        | zero =>
          intro q t H hq hH h175
          rw [← hL, E_loop, hL]
          have hlt : ¬ q < s.length := by omega
          simp only [go_sem, hH, hlt, h175]
          exact ⟨_, _, rfl⟩
        | succ k ih =>
          intro q t H hq hH h175
          rw [← hL, E_loop, hL]
          have hAl := (List.getElem?_eq_some_iff.1 hH).1
          by_cases hlt : q < s.length
          · have hb := ha _ (List.getElem_mem hlt)
            have hd := dec_ascii (List.getElem?_eq_getElem hlt) hb
            have hne : ¬ ((s[q].toNat : Int) = 65533) := by omega
            simp (disch := first | omega | (simp only [go_sem]; done) | fail) only [go_sem, hH, hlt, h175, hd, hne]
            generalize hT : upd _ 181 _ = T
            exact ih (q + 1) T _ (by omega) (List.getElem?_set_self hAl) (by rw [← hT]; simp only [go_sem, h175])
          · simp only [go_sem, hH, hlt, h175]
            exact ⟨_, _, rfl⟩
      generalize hT : upd _ 175 _ = T
      obtain ⟨t', H', k1⟩ := key (s.length + 1) 0 T [itB s 0] (by omega) rfl (by rw [← hT]; simp only [go_sem])
      rw [k1]
      simp only [go_sem]
    · obtain ⟨b, h88⟩ := F88 x 0 []
      cases b with
      | false => simp (disch := first | omega | (simp only [go_sem]; done) | fail) only [go_sem, h0, hx', he, h88]
      | true =>
        obtain ⟨es, a, m, e1, e2, e3, e4, e5, e6⟩ := enc_high x (by omega)
        have e2' : ((es.length : Int) - 1) = (m : Nat) := by omega
        simp (disch := first | omega | (simp only [go_sem]; done) | fail) only [go_sem, h0, hx', he, h88]
        rw [E_scopeR]
        simp (disch := first | omega | (simp only [go_sem]; done) | fail) only [go_sem, cv21_9Z, e1, bin_sub, e2']
        rw [E_loop]
        by_cases hm : m < s.length
        · have hm' : (m : Int) < s.length := by omega
          have hs1 : s[((m : Nat) : Int).toNat]? = some s[m] := by rw [Int.toNat_natCast]; exact List.getElem?_eq_getElem hm
          have hs2 : es[((m : Nat) : Int).toNat]? = some a := by rw [Int.toNat_natCast]; exact e5
          have hbm := ha _ (List.getElem_mem hm)
          have hne : ¬ ((s[m].toNat : Int) = a.toNat) := by omega
          have hc := a.toNat_lt
          have hmm : ((m : Int) + 1).toNat = m + 1 := by omega
          have hio : Lib.indexByte (s.drop (m + 1)) (UInt8.ofNat a.toNat) = -1 := indexByte_none _ _ fun b hb => by
            intro he
            have := ha b (List.mem_of_mem_drop hb)
            rw [he, UInt8.ofNat_toNat] at this
            omega
          have i1 := ix9 (l := s) (by omega) hs1
          have i2 := ix9 (l := es) (by omega) hs2
          simp (disch := first | omega | (simp only [go_sem]; done) | fail) only [go_sem, hm', i1, i2, hne, bin_add, FIndexByte, hmm, hio, E_scopeR]
        · have hm' : ¬ (m : Int) < s.length := by omega
          simp (disch := first | omega | (simp only [go_sem]; done) | fail) only [go_sem, hm', E_scopeR]
theorem F41 (x : Nat) (p : Nat) (H : Heap) : F 154 #[str lettersL, .int .i32 x] p H = some (.returned (.bool (letterI x)), H) := by
  rw [F, F_pure (f := 154) (X := X) (cl := cl) rfl rfl rfl Tryz.func154 rfl (by simp only [go_sem]), Tryz.results154]
  have h70 := F70 lettersL (by decide) letters_ascii x
  by_cases hx : x < 128
  · have := letters_tab ⟨x, hx⟩
    simp only at this
    simp only [go_sem, h70, hx, this]
  · have : letterI x = false := by unfold letterI; simp; omega
    simp only [go_sem, h70, hx, this]
theorem F40 (x : Nat) (p : Nat) (H : Heap) : F 153 #[.int .i32 x] p H = some (.returned (.int .i32 (dropL x)), H) := by
  rw [F, F_pure (f := 153) (X := X) (cl := cl) rfl rfl rfl Tryz.func153 rfl (by simp only [go_sem]), Tryz.results153]
  have h41 := F41 x
  simp only [lettersL] at h41
  unfold dropL
  cases hq : letterI x with
  | true => simp only [go_sem, h41, hq]
  | false => simp only [go_sem, h41, hq]
end Go.AM.Z0

namespace Go.AM.Z
open Go Go.AM Go.Proofs
open Go.RowKit (Below)
set_option maxRecDepth 1000000
theorem args1 {args : Array Value} {a : Value} (h : args.toList = [a]) : args = #[a] := Array.ext' h
theorem args2 {args : Array Value} {a b : Value} (h : args.toList = [a, b]) : args = #[a, b] := Array.ext' h
theorem mixedT : Tryz.prog.follows .mixedOrders = true := by kernel_rfl
variable {N0 : Nat} {W0 : World}
theorem s_IndexByte {f : FuncId} (hT : Taken Tryz.prog f) (hC : ∀ (s : ByteArray) (c : Int) (w : World), Calls Tryz.prog f #[.string s, .int .u8 c] w fun e w' => e = .returned (.int .i64 (Lib.indexByte s.data.toList c.toNat.toUInt8)) ∧ w' = w) :
    ExtSound Tryz.prog N0 W0 f (exG gIndexByte) := by
  refine ext_plain hT fun args v h => ?_
  unfold gIndexByte at h
  split at h
  · rename_i s c ha
    split at h
    · injection h with h
      rw [ha]
      refine ⟨by simp [ground, flat1, flat], fun w hb hn => ?_⟩
      rw [args2 ha]
      refine Calls.mono (hC s c w) ?_
      rintro e w' ⟨rfl, rfl⟩
      exact ⟨_, rfl, by rw [← h]; exact (vr_ground rfl).2 rfl, Below.refl _ _⟩
    · cases h
  · cases h
theorem s_Index {f : FuncId} (hT : Taken Tryz.prog f) (hC : ∀ (s : ByteArray) (c : UInt8) (w : World), Calls Tryz.prog f #[.string s, .string ⟨#[c]⟩] w fun e w' => e = .returned (.int .i64 (Lib.indexByte s.data.toList c)) ∧ w' = w) :
    ExtSound Tryz.prog N0 W0 f (exG gIndex) := by
  refine ext_plain hT fun args v h => ?_
  unfold gIndex at h
  split at h
  · rename_i s c ha
    injection h with h
    rw [ha]
    refine ⟨by simp [ground, flat1, flat], fun w hb hn => ?_⟩
    rw [args2 ha]
    refine Calls.mono (hC s c w) ?_
    rintro e w' ⟨rfl, rfl⟩
    exact ⟨_, rfl, by rw [← h]; exact (vr_ground rfl).2 rfl, Below.refl _ _⟩
  · cases h
theorem s_Count : ExtSound Tryz.prog N0 W0 158 (exG gCount) := by
  refine ext_plain ⟨Tryz.f158, Tryz.func158, rfl, by decide⟩ fun args v h => ?_
  unfold gCount at h
  split at h
  · rename_i s c ha
    injection h with h
    rw [ha]
    refine ⟨by simp [ground, flat1, flat], fun w hb hn => ?_⟩
    rw [args2 ha]
    refine Calls.mono (Tryz.strings_Count_one s c w) ?_
    rintro e w' ⟨rfl, rfl⟩
    exact ⟨_, rfl, by rw [← h]; exact (vr_ground rfl).2 rfl, Below.refl _ _⟩
  · cases h
structure Tabs (w : World) : Prop where
  pow : Lib.TabIs Tryz.prog w "internal/strconv.uint64pow10" .u64 Lib.pow10Tab
  utf : Lib.Utf8Tabs 3 4 w
  syn : ∃ ev, w.cell? ⟨1, 0, none⟩ = some ev ∧ (ev = .nilIface ∨ ∃ te pe, ev = .iface te pe)
  max : ∃ m, w.cell? ⟨0, 0, none⟩ = some (.int .i64 m)
  ran : ∃ ev, w.cell? ⟨2, 0, none⟩ = some ev ∧ (ev = .nilIface ∨ ∃ te pe, ev = .iface te pe)
theorem cell_lt' {w : World} {a : Addr} {v : Value} (hc : w.cell? a = some v) : a.block < w.heap.size := by
  rcases Nat.lt_or_ge a.block w.heap.size with h' | h'
  · exact h'
  · simp [World.cell?, Array.getElem?_eq_none h'] at hc
theorem Tabs.below {w w' : World} (h : Tabs w) (hb : Below w.heap.size w w') : Tabs w' := by
  obtain ⟨h1, h2, ⟨v3, h3, k3⟩, ⟨mx, h5⟩, ⟨v4, h4, k4⟩⟩ := h
  refine ⟨?_, Utf8Tabs_below h2 hb, ⟨v3, (hb.cell (cell_lt' h3)).trans h3, k3⟩, ⟨mx, (hb.cell (cell_lt' h5)).trans h5⟩, ⟨v4, (hb.cell (cell_lt' h4)).trans h4, k4⟩⟩
  have h8 : Tryz.prog.globalNamed "internal/strconv.uint64pow10" = some 5 := by kernel_rfl
  have hlt : 5 < w.heap.size := by
    have := World.var?_cell h8 h1 0
    refine cell_lt' (a := ⟨5, 0, none⟩) (v := .int .u64 1) (this.trans ?_)
    rfl
  exact var?_below hb h8 hlt h1
theorem s_Itoa (hT0 : Tabs W0) : ExtSound Tryz.prog W0.heap.size W0 155 (exG gItoa) := by
  refine ext_plain ⟨Tryz.f155, Tryz.func155, rfl, by decide⟩ fun args v h => ?_
  unfold gItoa at h
  split at h
  · rename_i n ha
    split at h
    · rename_i hn
      injection h with h
      rw [ha]
      refine ⟨by simp [ground, flat1, flat], fun w hb _ => ?_⟩
      rw [args1 ha]
      refine Calls.mono (Tryz.strconv_Itoa n hn.1 hn.2 w (hT0.below hb).pow) ?_
      rintro e w' ⟨rfl, k, os, rfl⟩
      exact ⟨_, rfl, by rw [← h]; exact (vr_ground rfl).2 rfl, ⟨rfl, rfl, rfl, by first | (simp [Go.Sort.grow]; done) | (simp [Go.Sort.grow]; omega) | (show w.heap.size ≤ (w.heap ++ os).size; simp), fun i hi => by
        show (w.heap ++ os)[i]? = _
        rw [Array.getElem?_append_left hi]⟩⟩
    · cases h
  · cases h
theorem s_Atoi (hT0 : Tabs W0) : ExtSound Tryz.prog W0.heap.size W0 113 (exG gAtoi) := by
  refine ext_plain ⟨Tryz.f113, Tryz.func113, rfl, by decide⟩ fun args v h => ?_
  unfold gAtoi at h
  split at h
  · rename_i s ha
    split at h
    · rename_i hn
      injection h with h
      rw [ha]
      refine ⟨by simp [ground, flat1, flat], fun w hb _ => ?_⟩
      rw [args1 ha]
      have tb := hT0.below hb
      have fin : ∀ (n : Int) (x y : Value), atoiV s.data.toList = n → errV s.data.toList = y → VR noMp y x → VR noMp v (.tuple #[.int .i64 n, x]) := by
        intro n x y hn hy hx
        rw [← h, hn, hy]
        show ∃ ys, _ = Value.tuple ⟨ys⟩ ∧ VRL noMp [Value.int .i64 n, y] ys
        refine ⟨[.int .i64 n, x], rfl, ?_⟩
        rw [vrl_cons2, vrl_cons2]
        exact ⟨(vr_flat rfl).2 rfl, hx, by simp [VRL]⟩
      have hch : ∀ x, VR noMp (.chan (some 0)) x := fun x => by simp [VR]
      rcases hq : Lib.atoiAll s.data.toList with n | _ | _
      · refine Calls.mono (Tryz.strconv_Atoi_ok s (by omega) n hq w) ?_
        rintro e w' ⟨rfl, hw⟩
        refine ⟨_, rfl, fin _ _ .nilIface (by unfold atoiV; rw [hq]) (by unfold errV; rw [hq]) ((vr_flat rfl).2 rfl), ?_⟩
        rcases hw with rfl | ⟨t, rfl⟩
        · exact Below.refl _ _
        · exact ⟨rfl, rfl, rfl, by rw [Lib.bytesWorld_size]; omega, fun j hj => Lib.bytesWorld_at_old w 5 t j hj⟩
      · obtain ⟨ev, e1, e2⟩ := tb.syn
        refine Calls.mono (Any.strconv_Atoi_syntax Tryz.laysC172 s hn hq ev w e1 e2) ?_
        rintro e w' ⟨N, rfl, _, _, hw⟩
        exact ⟨_, rfl, fin _ _ (.chan (some 0)) (by unfold atoiV; rw [hq]) (by unfold errV; rw [hq]) (hch _), hw⟩
      · obtain ⟨ev, e1, e2⟩ := tb.ran
        refine Calls.mono (Tryz.strconv_Atoi_range s hn hq ev w e1 e2) ?_
        rintro e w' ⟨N, rfl, _, _, hw⟩
        exact ⟨_, rfl, fin _ _ (.chan (some 0)) (by unfold atoiV; rw [hq]) (by unfold errV; rw [hq]) (hch _), hw⟩
    · cases h
  · cases h
theorem s_Last (hT0 : Tabs W0) : ExtSound Tryz.prog W0.heap.size W0 202 (exG gLast) := by
  refine ext_plain ⟨Tryz.f202, Tryz.func202, rfl, by decide⟩ fun args v h => ?_
  unfold gLast at h
  split at h
  · rename_i s ha
    split at h
    · rename_i hn
      injection h with h
      rw [ha]
      refine ⟨by simp [ground, flat1, flat], fun w hb _ => ?_⟩
      rw [args1 ha]
      refine Calls.mono (Tryz.utf8_DecodeLastRuneInString s w hn (hT0.below hb).utf) ?_
      rintro e w' ⟨rfl, hw⟩
      exact ⟨_, rfl, by rw [← h]; exact (vr_ground (by simp [ground, flat1, flat])).2 rfl, hw⟩
    · cases h
  · cases h
theorem gb0 : goodB Tryz.prog Z0.cl (fun f => Nat.beq f 105) = true := by kernel_rfl
theorem good0 : Good Tryz.prog N0 W0 Z0.cl Z0.X := by
  refine ⟨mixedT, ?_, body_of gb0 ?_⟩
  · intro f g hX
    unfold Z0.X at hX
    split at hX
    · injection hX with hX
      subst hX
      exact s_IndexByte ⟨Tryz.f105, Tryz.func105, rfl, by decide⟩ Tryz.strings_IndexByte
    · cases hX
  · intro f hX
    cases hq : Nat.beq f 105 with
    | false => rfl
    | true =>
      rw [Nat.eq_of_beq_eq_true hq] at hX
      cases hX
theorem dropL_bound (x : Nat) (h : x ≤ 1114111) : -2147483648 ≤ dropL x ∧ dropL x ≤ 2147483647 := by
  unfold dropL
  split <;> omega
theorem s_Map (hT0 : Tabs W0) : ExtSound Tryz.prog W0.heap.size W0 152 (exG gMap) := by
  refine ext_plain2 ⟨Tryz.f152, Tryz.func152, rfl, by decide⟩ fun args v h => ?_
  unfold gMap at h
  split at h
  · rename_i s ha
    split at h
    · rename_i hn
      injection h with h
      rw [ha]
      refine ⟨fun M ys hv => ?_, fun w hb hN => ?_⟩
      · rw [vrl_cons] at hv
        obtain ⟨y, ys', rfl, h1, h2⟩ := hv
        rw [vrl_cons] at h2
        obtain ⟨y2, ys2, rfl, h3, h4⟩ := h2
        rw [vrl_nil] at h4
        subst h4
        rw [(vr_flat rfl).1 h3]
        simp only [VR, VRL] at h1
        obtain ⟨a', b', e1, e2, e3⟩ := h1
        subst e2 e3
        rw [e1]
      · rw [args2 ha]
        have eg : ∀ (args : Array Value) (w : World), (callFunc 153 args).run Tryz.prog w = .ok (.enter 153 args) w := enters_of Tryz.func153 (by kernel_rfl) rfl
        have hf : MapGrows Tryz.prog 153 #[] dropL w := by
          intro W x hx hbW
          have hb' : Below W0.heap.size W0 W := hb.trans (hbW.mono hN)
          have hn' : W0.heap.size ≤ W.heap.size := Nat.le_trans hN hbW.size
          exact plain_calls (good0 (N0 := W0.heap.size) (W0 := W0)) (Z0.F40 x 0 []) (by simp [ground, flat1, flat]) rfl hb' hn'
        refine Calls.mono (Tryz.strings_Map_grows 153 #[] eg dropL s w hn.1 hf dropL_bound (hT0.below hb).utf) ?_
        rintro e w' ⟨rfl, hw⟩
        exact ⟨_, rfl, by rw [← h]; exact (vr_ground rfl).2 rfl, hw⟩
    · cases h
  · cases h
theorem count_nil_index (l2 : List UInt8) (h : 1 ≤ l2.length) : Lib.index [] l2 = -1 := by
  cases l2 with
  | nil => simp at h
  | cons c r => rfl
theorem join_len (sep : List UInt8) : ∀ xs : List (List UInt8), (sep.intercalate xs).length ≤ (xs.map List.length).sum + xs.length * sep.length
  | [] => by simp [List.intercalate]
  | [x] => by simp [List.intercalate]
  | x :: y :: r => by
    have := join_len sep (y :: r)
    have e : sep.intercalate (x :: y :: r) = x ++ (sep ++ sep.intercalate (y :: r)) := by simp [List.intercalate, List.intersperse]
    rw [e]
    simp only [List.length_append, List.map_cons, List.sum_cons, List.length_cons, Nat.succ_mul] at this ⊢
    omega
theorem numsL_getD (l : List UInt8) (i : Nat) (h : i < l.length) : (Lib.numsL l).getD i 0 = ((l[i]).toNat : Int) := by
  simp [Lib.numsL, h]
theorem bytes_cells {M : Mp} {w : World} {l : List UInt8} {a : Addr} (h : ∀ i, i < l.length * 1 → ∃ x y, (u8s l)[i]? = some x ∧ w.cell? (a.add i) = some y ∧ VR M x y) :
    ∀ i, i < l.length → w.cell? (a.add i) = some (.int .u8 ((Lib.numsL l).getD i 0)) := fun i hi => by
  obtain ⟨x, y, e1, e2, e3⟩ := h i (by omega)
  have : (u8s l)[i]? = some (.int .u8 (l[i]).toNat) := by simp [u8s, hi]
  obtain rfl := Option.some.inj (this.symm.trans e1)
  rw [numsL_getD l i hi, e2, (vr_flat rfl).1 e3]
theorem s_bCount (hT0 : Tabs W0) : ExtSound Tryz.prog W0.heap.size W0 102 (exH (gSpec rCount)) := by
  refine ext_reads ⟨Tryz.f102, Tryz.func102, rfl, by decide⟩ fun H args v h => ?_
  obtain ⟨q, l, q2, l2, rfl, c1, c2, b1, b2, b3, rfl⟩ := gSpec_rel h
  refine ⟨rfl, fun M w args' hH hv => ?_⟩
  rw [vrl_cons] at hv
  obtain ⟨y1, ys, ea, v1, hv⟩ := hv
  rw [vrl_cons] at hv
  obtain ⟨y2, ys2, rfl, v2, hv⟩ := hv
  rw [vrl_nil] at hv
  subst hv
  rw [args2 ea]
  have l0 : (Lib.numsL l).length = l.length := by simp [Lib.numsL]
  have l20 : (Lib.numsL l2).length = l2.length := by simp [Lib.numsL]
  obtain ⟨mx, hmx⟩ := (hT0.below hH.below).max
  rcases slv_world hH c2 (by simp [u8s]) (by omega) v2 with ⟨rfl, hn⟩ | ⟨a2, cap2, rfl, k1, k2, k3⟩
  · omega
  · rcases slv_world hH c1 (by simp [u8s]) (by omega) v1 with ⟨rfl, hn⟩ | ⟨a1, cap1, rfl, m1, m2, m3⟩
    · obtain rfl : l = [] := List.length_eq_zero_iff.1 hn
      by_cases h1 : l2.length = 1
      · obtain ⟨c, rfl⟩ : ∃ c, l2 = [c] := List.length_eq_one_iff.1 h1
        obtain ⟨b2', o2', sp⟩ := a2
        obtain rfl : sp = none := (k2 (by simp)).2
        have hc := bytes_cells k3 0 (by simp)
        rw [add_none] at hc
        refine Calls.mono (Tryz.bytes_Count_one_nil b2' o2' cap2 _ w hc) ?_
        rintro e w' ⟨rfl, rfl⟩
        exact ⟨by rw [Lib.count_one]; rfl, Below.refl _ _⟩
      · refine Calls.mono (Tryz.bytes_Count_nil a2 l2.length cap2 w (by omega) (by omega)) ?_
        rintro e w' ⟨rfl, hw⟩
        subst hw
        refine ⟨?_, Below.refl _ _⟩
        have e : Lib.count [] l2 = 0 := by
          have e1 : Lib.index [] l2 = -1 := count_nil_index l2 (by omega)
          unfold Lib.count
          show (if Lib.index [] l2 == -1 then 0 else _) = 0
          rw [e1]; rfl
        rw [e]; rfl
    · refine Calls.mono (Tryz.bytes_Count_any a1 a2 l.length cap1 l2.length cap2 (Lib.numsL l) (Lib.numsL l2) mx w l0 l20 (Lib.numsL_range l) (Lib.numsL_range l2) (bytes_cells m3) (bytes_cells k3) m1 b1 (by omega) b2 hmx) ?_
      rintro e w' ⟨rfl, qq, rfl⟩
      exact ⟨by rw [Lib.bytesOf_numsL, Lib.bytesOf_numsL], below_drewN (Below.refl _ _) _⟩
theorem s_Join (hT0 : Tabs W0) : ExtSound Tryz.prog W0.heap.size W0 165 (exH (gSpec rJoin)) := by
  refine ext_reads ⟨Tryz.f165, Tryz.func165, rfl, by decide⟩ fun H args v h => ?_
  obtain ⟨q, xs, sep, rfl, c1, b1, b2, rfl⟩ := gSpec_rel h
  refine ⟨rfl, fun M w args' hH hv => ?_⟩
  rw [vrl_cons] at hv
  obtain ⟨y1, ys, ea, v1, hv⟩ := hv
  rw [vrl_cons] at hv
  obtain ⟨y2, ys2, rfl, v2, hv⟩ := hv
  rw [vrl_nil] at hv
  subst hv
  rw [args2 ea]
  obtain rfl := (vr_flat rfl).1 v2
  rcases slv_world hH c1 (by simp) (by omega) v1 with ⟨rfl, hn⟩ | ⟨a, cap, rfl, k1, k2, k3⟩
  · obtain rfl : xs = [] := List.length_eq_zero_iff.1 hn
    refine Calls.mono (Tryz.strings_Join_none none 0 ⟨sep.toArray⟩ w) ?_
    rintro e w' ⟨rfl, rfl⟩
    exact ⟨rfl, Below.refl _ _⟩
  · by_cases h0 : xs.length = 0
    · obtain rfl : xs = [] := List.length_eq_zero_iff.1 h0
      refine Calls.mono (Tryz.strings_Join_none (some a) cap ⟨sep.toArray⟩ w) ?_
      rintro e w' ⟨rfl, rfl⟩
      exact ⟨rfl, Below.refl _ _⟩
    · obtain ⟨b, o, sp⟩ := a
      obtain ⟨hb, hsp⟩ := k2 h0
      simp only at hb hsp
      subst hsp
      have hml : (xs.map fun l => (⟨l.toArray⟩ : ByteArray)).length = xs.length := by simp
      have hmm : (xs.map fun l => (⟨l.toArray⟩ : ByteArray)).map (·.data.toList) = xs := by
        rw [List.map_map]
        conv => rhs; rw [← List.map_id xs]
        rfl
      have hJ := Tryz.strings_Join b o cap (xs.map fun l => (⟨l.toArray⟩ : ByteArray)) ⟨sep.toArray⟩ w (fun j x hx => by
        rw [List.getElem?_map] at hx
        obtain ⟨l, hl, rfl⟩ := Option.map_eq_some_iff.1 hx
        have hj : j < xs.length := (List.getElem?_eq_some_iff.1 hl).1
        obtain ⟨x, y, e1, e2, e3⟩ := k3 j (by omega)
        have : (xs.map str)[j]? = some (str l) := by rw [List.getElem?_map, hl]; rfl
        obtain rfl := Option.some.inj (this.symm.trans e1)
        rw [add_none] at e2
        rw [e2, (vr_flat rfl).1 e3]) hb (by rw [hml]; have := Nat.mul_le_mul_left xs.length b2; omega) (by rw [hml]; exact k1) (by
        rw [hmm]
        have := join_len sep xs
        show ((sep.intercalate xs).length) ≤ _
        omega)
      rw [hml, hmm] at hJ
      exact hJ
theorem gb : goodB Tryz.prog cl (fun f => isIn f exts) = true := by kernel_rfl
theorem good (hT0 : Tabs W0) : Good Tryz.prog W0.heap.size W0 cl X := by
  refine ⟨mixedT, ?_, body_of gb ?_⟩
  · intro f g hX
    unfold X at hX
    split at hX <;> first | (injection hX with hX; subst hX) | cases hX
    · exact s_Itoa hT0
    · exact s_Atoi hT0
    · exact s_Index ⟨Tryz.f159, Tryz.func159, rfl, by decide⟩ Tryz.strings_Index_one
    · exact s_Index ⟨Tryz.f173, Tryz.func173, rfl, by decide⟩ Tryz.stringslite_Index_one
    · exact s_IndexByte ⟨Tryz.f105, Tryz.func105, rfl, by decide⟩ Tryz.strings_IndexByte
    · exact s_IndexByte ⟨Tryz.f138, Tryz.func138, rfl, by decide⟩ Tryz.stringslite_IndexByte
    · exact s_Count
    · exact s_Last hT0
    · exact s_Map hT0
    · exact s_bCount hT0
    · exact s_Join hT0
  · intro f hX
    cases hq : isIn f exts with
    | false => rfl
    | true =>
      exfalso
      have key : ∀ l : List Nat, isIn f l = true → f ∈ l := by
        intro l
        induction l with
        | nil => intro h; cases h
        | cons x xs ih =>
          intro h
          unfold isIn at h
          cases hb : Nat.beq f x with
          | true => rw [Nat.eq_of_beq_eq_true hb]; simp
          | false => rw [hb] at h; exact List.mem_cons_of_mem _ (ih h)
      have hm := key _ hq
      simp only [exts, List.mem_cons, List.mem_nil_iff, or_false] at hm
      rcases hm with rfl | rfl | rfl | rfl | rfl | rfl | rfl | rfl | rfl | rfl | rfl <;> cases hX
end Go.AM.Z
