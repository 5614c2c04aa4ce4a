/- Contracts of the library at this program, laid out of the kit's shelf by its own tools, reduced. -/
import Derived.Shelf.Small.Bits
import Derived.Shelf.Strconv.Atoi
import Derived.Shelf.Strconv.Itoa3
import Derived.Shelf.Strings.Search2
import Derived.Shelf.Strings.Prefix
import Derived.Shelf.LaysM
import Derived.Test.YtgpbohfbhfbelaaGreatDoorProg
import Derived.Test.YtgpbohfbhfbelaaGreatDoorArA
import Derived.Test.YtgpbohfbhfbelaaGreatDoorArH
import Derived.Shelf.Strings.SlTrimAscii
import Derived.Test.YtgpbohfbhfbelaaGreatDoorSxS
set_option linter.unusedSimpArgs false
set_option linter.unusedVariables false
namespace Go.Proofs
open Go.Shelf
def Tryz.lays219_ren : Go.Shelf.Ren := ⟨fun | 219 => 224 | 217 => 251 | 225 => 252 | 224 => 253 | 267 => 254 | 266 => 276 | 314 => 277 | n => n, fun | 9 => 9 | 3 => 3 | 4 => 4 | 5 => 5 | 46 => 168 | 146 => 215 | 51 => 214 | n => n, fun | 1 => 2 | n => n⟩
theorem Tryz.lays219 : Go.Proofs.Lays.n219 Tryz.prog Tryz.lays219_ren := {
 mixed := by kernel_rfl
 f217 := Tryz.func251.trans (congrArg some (by kernel_rfl))
 f219 := Tryz.func224.trans (congrArg some (by kernel_rfl))
 f224 := Tryz.func253.trans (congrArg some (by kernel_rfl))
 f225 := Tryz.func252.trans (congrArg some (by kernel_rfl))
 f266 := Tryz.func276.trans (congrArg some (by kernel_rfl))
 f267 := Tryz.func254.trans (congrArg some (by kernel_rfl))
 f314 := Tryz.func277.trans (congrArg some (by kernel_rfl))
 t3 := Tryz.underlying3
 a3 := Tryz.isAgg3
 z3 := Tryz.sizeOf3
 v3 := Tryz.zeroValue3
 t4 := Tryz.underlying4
 a4 := Tryz.isAgg4
 z4 := Tryz.sizeOf4
 v4 := Tryz.zeroValue4
 t5 := Tryz.underlying5
 a5 := Tryz.isAgg5
 z5 := Tryz.sizeOf5
 v5 := Tryz.zeroValue5
 t9 := Tryz.underlying9
 a9 := Tryz.isAgg9
 z9 := Tryz.sizeOf9
 v9 := Tryz.zeroValue9
 t46 := Tryz.underlying168
 a46 := Tryz.isAgg168
 z46 := Tryz.sizeOf168
 v46 := Tryz.zeroValue168
 t51 := Tryz.underlying214
 a51 := Tryz.isAgg214
 z51 := Tryz.sizeOf214
 v51 := Tryz.zeroValue214
 t146 := Tryz.underlying215
 a146 := Tryz.isAgg215
 z146 := Tryz.sizeOf215
 v146 := Tryz.zeroValue215
 g1 := by kernel_rfl }
open Go.RowKit Go.Lib in
theorem Tryz.stringslite_Index_one (s : ByteArray) (c : UInt8) (w : World) :
  Calls Tryz.prog 224 #[.string s, .string ⟨#[c]⟩] w fun e w' => e = .returned (.int .i64 (Lib.indexByte s.data.toList c)) ∧ w' = w := Any.stringslite_Index_one Tryz.lays219 s c w
def Tryz.laysM171_ren : Go.Shelf.Ren := ⟨fun | 171 => 99 | 243 => 159 | 246 => 211 | 283 => 243 | 284 => 244 | 285 => 245 | 286 => 246 | 129 => 271 | 317 => 272 | 318 => 273 | 319 => 274 | 320 => 275 | 337 => 288 | 338 => 289 | n => n, fun | 3 => 3 | 9 => 9 | 2 => 2 | 4 => 4 | 171 => 263 | 0 => 0 | 53 => 217 | 37 => 172 | 5 => 5 | 173 => 266 | 212 => 289 | 51 => 214 | 20 => 20 | 213 => 290 | 46 => 168 | 232 => 310 | 233 => 311 | n => n, fun | 17 => 5 | 18 => 8 | 19 => 9 | n => n⟩
theorem Tryz.laysM171 : Go.Proofs.LaysM.n171 Tryz.prog Tryz.laysM171_ren := {
 mixed := by kernel_rfl
 f129 := Tryz.func271.trans (congrArg some (by kernel_rfl))
 f171 := Tryz.func99.trans (congrArg some (by kernel_rfl))
 f243 := Tryz.func159.trans (congrArg some (by kernel_rfl))
 f246 := Tryz.func211.trans (congrArg some (by kernel_rfl))
 f283 := Tryz.func243.trans (congrArg some (by kernel_rfl))
 f284 := Tryz.func244.trans (congrArg some (by kernel_rfl))
 f285 := Tryz.func245.trans (congrArg some (by kernel_rfl))
 f286 := Tryz.func246.trans (congrArg some (by kernel_rfl))
 f317 := Tryz.func272.trans (congrArg some (by kernel_rfl))
 f318 := Tryz.func273.trans (congrArg some (by kernel_rfl))
 f319 := Tryz.func274.trans (congrArg some (by kernel_rfl))
 f320 := Tryz.func275.trans (congrArg some (by kernel_rfl))
 f337 := Tryz.func288.trans (congrArg some (by kernel_rfl))
 f338 := Tryz.func289.trans (congrArg some (by kernel_rfl))
 t0 := Tryz.underlying0
 a0 := Tryz.isAgg0
 z0 := Tryz.sizeOf0
 v0 := Tryz.zeroValue0
 t2 := Tryz.underlying2
 a2 := Tryz.isAgg2
 z2 := Tryz.sizeOf2
 v2 := Tryz.zeroValue2
 t3 := Tryz.underlying3
 a3 := Tryz.isAgg3
 z3 := Tryz.sizeOf3
 v3 := Tryz.zeroValue3
 t4 := Tryz.underlying4
 a4 := Tryz.isAgg4
 z4 := Tryz.sizeOf4
 v4 := Tryz.zeroValue4
 t5 := Tryz.underlying5
 a5 := Tryz.isAgg5
 z5 := Tryz.sizeOf5
 v5 := Tryz.zeroValue5
 t9 := Tryz.underlying9
 a9 := Tryz.isAgg9
 z9 := Tryz.sizeOf9
 v9 := Tryz.zeroValue9
 t20 := Tryz.underlying20
 a20 := Tryz.isAgg20
 z20 := Tryz.sizeOf20
 v20 := Tryz.zeroValue20
 t37 := Tryz.underlying172
 a37 := Tryz.isAgg172
 z37 := Tryz.sizeOf172
 v37 := Tryz.zeroValue172
 t46 := Tryz.underlying168
 a46 := Tryz.isAgg168
 z46 := Tryz.sizeOf168
 v46 := Tryz.zeroValue168
 t51 := Tryz.underlying214
 a51 := Tryz.isAgg214
 z51 := Tryz.sizeOf214
 v51 := Tryz.zeroValue214
 t53 := Tryz.underlying217
 a53 := Tryz.isAgg217
 z53 := Tryz.sizeOf217
 v53 := Tryz.zeroValue217
 t171 := Tryz.underlying263
 a171 := Tryz.isAgg263
 z171 := Tryz.sizeOf263
 v171 := Tryz.zeroValue263
 t173 := Tryz.underlying266
 a173 := Tryz.isAgg266
 z173 := Tryz.sizeOf266
 v173 := Tryz.zeroValue266
 t212 := Tryz.underlying289
 a212 := Tryz.isAgg289
 z212 := Tryz.sizeOf289
 v212 := Tryz.zeroValue289
 t213 := Tryz.underlying290
 a213 := Tryz.isAgg290
 z213 := Tryz.sizeOf290
 t232 := Tryz.underlying310
 a232 := Tryz.isAgg310
 z232 := Tryz.sizeOf310
 v232 := Tryz.zeroValue310
 t233 := Tryz.underlying311
 a233 := Tryz.isAgg311
 z233 := Tryz.sizeOf311
 v233 := Tryz.zeroValue311
 g17 := by kernel_rfl
 g18 := by kernel_rfl
 g19 := by kernel_rfl
 i0 := by kernel_rfl
 i2 := by kernel_rfl
 i3 := by kernel_rfl
 i4 := by kernel_rfl
 i5 := by kernel_rfl
 i9 := by kernel_rfl
 i20 := by kernel_rfl
 i37 := by kernel_rfl
 i46 := by kernel_rfl
 i51 := by kernel_rfl
 i53 := by kernel_rfl
 i171 := by kernel_rfl
 i173 := by kernel_rfl
 i212 := by kernel_rfl
 i232 := by kernel_rfl
 i233 := by kernel_rfl
 m17 := by kernel_rfl
 m18 := by kernel_rfl
 m19 := by kernel_rfl }
open Go.RowKit Go.Sort Go.Lib in
theorem Tryz.strconv_Itoa (n : Int) (h0 : -9223372036854775808 ≤ n) (h1 : n ≤ 9223372036854775807) (w : World) (htab : Lib.TabIs Tryz.prog w "internal/strconv.uint64pow10" .u64 Lib.pow10Tab) :
  Calls Tryz.prog 99 #[.int .i64 n] w fun e w' => e = .returned (.string ⟨(Lib.itoa n).toArray⟩) ∧ ∃ k os, w' = grow (w.drewN k) os := Any.strconv_Itoa Tryz.laysM171 n h0 h1 w htab
def Tryz.lays160_ren : Go.Shelf.Ren := ⟨fun | 160 => 195 | 232 => 227 | 231 => 226 | 227 => 228 | 234 => 230 | 233 => 229 | 236 => 232 | 235 => 231 | 228 => 255 | 271 => 258 | 151 => 257 | 197 => 256 | 120 => 280 | 152 => 279 | 260 => 278 | 137 => 290 | 119 => 291 | 224 => 253 | 225 => 252 | 217 => 251 | 266 => 276 | n => n, fun | 9 => 9 | 4 => 4 | 3 => 3 | 5 => 5 | 117 => 245 | 116 => 244 | 0 => 0 | 124 => 248 | 21 => 21 | 105 => 272 | 46 => 168 | 119 => 303 | 139 => 306 | 138 => 305 | n => n, fun | 3 => 6 | 4 => 7 | n => n⟩
theorem Tryz.lays160 : Go.Proofs.Lays.n160 Tryz.prog Tryz.lays160_ren := {
 mixed := by kernel_rfl
 f119 := Tryz.func291.trans (congrArg some (by kernel_rfl))
 f120 := Tryz.func280.trans (congrArg some (by kernel_rfl))
 f137 := Tryz.func290.trans (congrArg some (by kernel_rfl))
 f151 := Tryz.func257.trans (congrArg some (by kernel_rfl))
 f152 := Tryz.func279.trans (congrArg some (by kernel_rfl))
 f160 := Tryz.func195.trans (congrArg some (by kernel_rfl))
 f197 := Tryz.func256.trans (congrArg some (by kernel_rfl))
 f217 := Tryz.func251.trans (congrArg some (by kernel_rfl))
 f224 := Tryz.func253.trans (congrArg some (by kernel_rfl))
 f225 := Tryz.func252.trans (congrArg some (by kernel_rfl))
 f227 := Tryz.func228.trans (congrArg some (by kernel_rfl))
 f228 := Tryz.func255.trans (congrArg some (by kernel_rfl))
 f231 := Tryz.func226.trans (congrArg some (by kernel_rfl))
 f232 := Tryz.func227.trans (congrArg some (by kernel_rfl))
 f233 := Tryz.func229.trans (congrArg some (by kernel_rfl))
 f234 := Tryz.func230.trans (congrArg some (by kernel_rfl))
 f235 := Tryz.func231.trans (congrArg some (by kernel_rfl))
 f236 := Tryz.func232.trans (congrArg some (by kernel_rfl))
 f260 := Tryz.func278.trans (congrArg some (by kernel_rfl))
 f266 := Tryz.func276.trans (congrArg some (by kernel_rfl))
 f271 := Tryz.func258.trans (congrArg some (by kernel_rfl))
 t0 := Tryz.underlying0
 a0 := Tryz.isAgg0
 z0 := Tryz.sizeOf0
 v0 := Tryz.zeroValue0
 t3 := Tryz.underlying3
 a3 := Tryz.isAgg3
 z3 := Tryz.sizeOf3
 v3 := Tryz.zeroValue3
 t4 := Tryz.underlying4
 a4 := Tryz.isAgg4
 z4 := Tryz.sizeOf4
 v4 := Tryz.zeroValue4
 t5 := Tryz.underlying5
 a5 := Tryz.isAgg5
 z5 := Tryz.sizeOf5
 v5 := Tryz.zeroValue5
 t9 := Tryz.underlying9
 a9 := Tryz.isAgg9
 z9 := Tryz.sizeOf9
 v9 := Tryz.zeroValue9
 t21 := Tryz.underlying21
 a21 := Tryz.isAgg21
 z21 := Tryz.sizeOf21
 v21 := Tryz.zeroValue21
 t46 := Tryz.underlying168
 a46 := Tryz.isAgg168
 z46 := Tryz.sizeOf168
 v46 := Tryz.zeroValue168
 t105 := Tryz.underlying272
 a105 := Tryz.isAgg272
 z105 := Tryz.sizeOf272
 v105 := Tryz.zeroValue272
 t116 := Tryz.underlying244
 a116 := Tryz.isAgg244
 z116 := Tryz.sizeOf244
 t117 := Tryz.underlying245
 a117 := Tryz.isAgg245
 z117 := Tryz.sizeOf245
 v117 := Tryz.zeroValue245
 t119 := Tryz.underlying303
 a119 := Tryz.isAgg303
 z119 := Tryz.sizeOf303
 t124 := Tryz.underlying248
 a124 := Tryz.isAgg248
 z124 := Tryz.sizeOf248
 v124 := Tryz.zeroValue248
 t138 := Tryz.underlying305
 a138 := Tryz.isAgg305
 z138 := Tryz.sizeOf305
 v138 := Tryz.zeroValue305
 t139 := Tryz.underlying306
 a139 := Tryz.isAgg306
 z139 := Tryz.sizeOf306
 v139 := Tryz.zeroValue306
 g3 := by kernel_rfl
 g4 := by kernel_rfl }
def Tryz.lays172_ren : Go.Shelf.Ren := ⟨fun | 172 => 134 | 244 => 196 | 245 => 197 | 247 => 233 | 279 => 234 | 280 => 235 | 281 => 236 | 282 => 237 | 287 => 259 | 316 => 260 | 171 => 99 | 205 => 261 | 321 => 281 | 322 => 282 | 243 => 159 | 246 => 211 | 283 => 243 | 284 => 244 | 285 => 245 | 286 => 246 | 129 => 271 | 317 => 272 | 318 => 273 | 319 => 274 | 320 => 275 | 337 => 288 | 338 => 289 | n => n, fun | 9 => 9 | 3 => 3 | 75 => 158 | 76 => 159 | 4 => 4 | 5 => 5 | 167 => 249 | 37 => 172 | 0 => 0 | 85 => 250 | 2 => 2 | 168 => 252 | 53 => 217 | 175 => 275 | 46 => 168 | 210 => 278 | 127 => 220 | 145 => 296 | 143 => 294 | 21 => 21 | 171 => 263 | 173 => 266 | 212 => 289 | 51 => 214 | 20 => 20 | 213 => 290 | 232 => 310 | 233 => 311 | 80 => 177 | n => n, fun | 15 => 3 | 16 => 4 | 17 => 5 | 18 => 8 | 19 => 9 | n => n⟩
theorem Tryz.lays172 : Go.Proofs.Lays.n172 Tryz.prog Tryz.lays172_ren := {
 mixed := by kernel_rfl
 f129 := Tryz.func271.trans (congrArg some (by kernel_rfl))
 f171 := Tryz.func99.trans (congrArg some (by kernel_rfl))
 f172 := Tryz.func134.trans (congrArg some (by kernel_rfl))
 f205 := Tryz.func261.trans (congrArg some (by kernel_rfl))
 f243 := Tryz.func159.trans (congrArg some (by kernel_rfl))
 f244 := Tryz.func196.trans (congrArg some (by kernel_rfl))
 f245 := Tryz.func197.trans (congrArg some (by kernel_rfl))
 f246 := Tryz.func211.trans (congrArg some (by kernel_rfl))
 f247 := Tryz.func233.trans (congrArg some (by kernel_rfl))
 f279 := Tryz.func234.trans (congrArg some (by kernel_rfl))
 f280 := Tryz.func235.trans (congrArg some (by kernel_rfl))
 f281 := Tryz.func236.trans (congrArg some (by kernel_rfl))
 f282 := Tryz.func237.trans (congrArg some (by kernel_rfl))
 f283 := Tryz.func243.trans (congrArg some (by kernel_rfl))
 f284 := Tryz.func244.trans (congrArg some (by kernel_rfl))
 f285 := Tryz.func245.trans (congrArg some (by kernel_rfl))
 f286 := Tryz.func246.trans (congrArg some (by kernel_rfl))
 f287 := Tryz.func259.trans (congrArg some (by kernel_rfl))
 f316 := Tryz.func260.trans (congrArg some (by kernel_rfl))
 f317 := Tryz.func272.trans (congrArg some (by kernel_rfl))
 f318 := Tryz.func273.trans (congrArg some (by kernel_rfl))
 f319 := Tryz.func274.trans (congrArg some (by kernel_rfl))
 f320 := Tryz.func275.trans (congrArg some (by kernel_rfl))
 f321 := Tryz.func281.trans (congrArg some (by kernel_rfl))
 f322 := Tryz.func282.trans (congrArg some (by kernel_rfl))
 f337 := Tryz.func288.trans (congrArg some (by kernel_rfl))
 f338 := Tryz.func289.trans (congrArg some (by kernel_rfl))
 t0 := Tryz.underlying0
 a0 := Tryz.isAgg0
 z0 := Tryz.sizeOf0
 v0 := Tryz.zeroValue0
 t2 := Tryz.underlying2
 a2 := Tryz.isAgg2
 z2 := Tryz.sizeOf2
 v2 := Tryz.zeroValue2
 t3 := Tryz.underlying3
 a3 := Tryz.isAgg3
 z3 := Tryz.sizeOf3
 v3 := Tryz.zeroValue3
 t4 := Tryz.underlying4
 a4 := Tryz.isAgg4
 z4 := Tryz.sizeOf4
 v4 := Tryz.zeroValue4
 t5 := Tryz.underlying5
 a5 := Tryz.isAgg5
 z5 := Tryz.sizeOf5
 v5 := Tryz.zeroValue5
 t9 := Tryz.underlying9
 a9 := Tryz.isAgg9
 z9 := Tryz.sizeOf9
 v9 := Tryz.zeroValue9
 t20 := Tryz.underlying20
 a20 := Tryz.isAgg20
 z20 := Tryz.sizeOf20
 v20 := Tryz.zeroValue20
 t21 := Tryz.underlying21
 a21 := Tryz.isAgg21
 z21 := Tryz.sizeOf21
 v21 := Tryz.zeroValue21
 t37 := Tryz.underlying172
 a37 := Tryz.isAgg172
 z37 := Tryz.sizeOf172
 v37 := Tryz.zeroValue172
 t46 := Tryz.underlying168
 a46 := Tryz.isAgg168
 z46 := Tryz.sizeOf168
 v46 := Tryz.zeroValue168
 t51 := Tryz.underlying214
 a51 := Tryz.isAgg214
 z51 := Tryz.sizeOf214
 v51 := Tryz.zeroValue214
 t53 := Tryz.underlying217
 a53 := Tryz.isAgg217
 z53 := Tryz.sizeOf217
 v53 := Tryz.zeroValue217
 t75 := Tryz.underlying158
 a75 := Tryz.isAgg158
 z75 := Tryz.sizeOf158
 v75 := Tryz.zeroValue158
 t76 := Tryz.underlying159
 a76 := Tryz.isAgg159
 z76 := Tryz.sizeOf159
 v76 := Tryz.zeroValue159
 t85 := Tryz.underlying250
 a85 := Tryz.isAgg250
 z85 := Tryz.sizeOf250
 v85 := Tryz.zeroValue250
 t127 := Tryz.underlying220
 a127 := Tryz.isAgg220
 z127 := Tryz.sizeOf220
 v127 := Tryz.zeroValue220
 t143 := Tryz.underlying294
 a143 := Tryz.isAgg294
 z143 := Tryz.sizeOf294
 v143 := Tryz.zeroValue294
 t145 := Tryz.underlying296
 a145 := Tryz.isAgg296
 z145 := Tryz.sizeOf296
 v145 := Tryz.zeroValue296
 t167 := Tryz.underlying249
 a167 := Tryz.isAgg249
 z167 := Tryz.sizeOf249
 v167 := Tryz.zeroValue249
 t168 := Tryz.underlying252
 a168 := Tryz.isAgg252
 z168 := Tryz.sizeOf252
 v168 := Tryz.zeroValue252
 t171 := Tryz.underlying263
 a171 := Tryz.isAgg263
 z171 := Tryz.sizeOf263
 v171 := Tryz.zeroValue263
 t173 := Tryz.underlying266
 a173 := Tryz.isAgg266
 z173 := Tryz.sizeOf266
 v173 := Tryz.zeroValue266
 t175 := Tryz.underlying275
 a175 := Tryz.isAgg275
 z175 := Tryz.sizeOf275
 v175 := Tryz.zeroValue275
 t210 := Tryz.underlying278
 a210 := Tryz.isAgg278
 z210 := Tryz.sizeOf278
 v210 := Tryz.zeroValue278
 t212 := Tryz.underlying289
 a212 := Tryz.isAgg289
 z212 := Tryz.sizeOf289
 v212 := Tryz.zeroValue289
 t213 := Tryz.underlying290
 a213 := Tryz.isAgg290
 z213 := Tryz.sizeOf290
 t232 := Tryz.underlying310
 a232 := Tryz.isAgg310
 z232 := Tryz.sizeOf310
 v232 := Tryz.zeroValue310
 t233 := Tryz.underlying311
 a233 := Tryz.isAgg311
 z233 := Tryz.sizeOf311
 v233 := Tryz.zeroValue311
 g15 := by kernel_rfl
 g16 := by kernel_rfl
 g17 := by kernel_rfl
 g18 := by kernel_rfl
 g19 := by kernel_rfl }
open Go.RowKit in
theorem Tryz.strconv_Atoi (s : ByteArray) (n : Int) (hl : s.size ≤ 18) (h : Lib.atoi s.data.toList = some n) (w : World) :
  Calls Tryz.prog 134 #[.string s] w fun e w' => e = .returned (.tuple #[.int .i64 n, .nilIface]) ∧ ∃ t, w' = Lib.bytesWorld w 5 t := Any.strconv_Atoi Tryz.lays172 s n hl h w
def Tryz.lays206_ren : Go.Shelf.Ren := ⟨fun | 206 => 162 | n => n, fun | 9 => 9 | 4 => 4 | 3 => 3 | n => n, fun | n => n⟩
theorem Tryz.lays206 : Go.Proofs.Lays.n206 Tryz.prog Tryz.lays206_ren := {
 mixed := by kernel_rfl
 f206 := Tryz.func162.trans (congrArg some (by kernel_rfl))
 t3 := Tryz.underlying3
 a3 := Tryz.isAgg3
 z3 := Tryz.sizeOf3
 v3 := Tryz.zeroValue3
 t4 := Tryz.underlying4
 a4 := Tryz.isAgg4
 z4 := Tryz.sizeOf4
 v4 := Tryz.zeroValue4
 t9 := Tryz.underlying9
 a9 := Tryz.isAgg9
 z9 := Tryz.sizeOf9
 v9 := Tryz.zeroValue9 }
open Go.RowKit Go.Lib in
theorem Tryz.stringslite_HasPrefix (s p : ByteArray) (w : World) :
  Calls Tryz.prog 162 #[.string s, .string p] w fun e w' => e = .returned (.bool (Lib.hasPrefix s.data.toList p.data.toList)) ∧ w' = w := Any.stringslite_HasPrefix Tryz.lays206 s p w
def Tryz.lays125_ren : Go.Shelf.Ren := ⟨fun | 125 => 242 | 128 => 270 | 129 => 271 | n => n, fun | 46 => 168 | 3 => 3 | 51 => 214 | 53 => 217 | 4 => 4 | 5 => 5 | 9 => 9 | n => n, fun | n => n⟩
theorem Tryz.lays125 : Go.Proofs.Lays.n125 Tryz.prog Tryz.lays125_ren := {
 mixed := by kernel_rfl
 f125 := Tryz.func242.trans (congrArg some (by kernel_rfl))
 f128 := Tryz.func270.trans (congrArg some (by kernel_rfl))
 f129 := Tryz.func271.trans (congrArg some (by kernel_rfl))
 t3 := Tryz.underlying3
 a3 := Tryz.isAgg3
 z3 := Tryz.sizeOf3
 v3 := Tryz.zeroValue3
 t4 := Tryz.underlying4
 a4 := Tryz.isAgg4
 z4 := Tryz.sizeOf4
 v4 := Tryz.zeroValue4
 t5 := Tryz.underlying5
 a5 := Tryz.isAgg5
 z5 := Tryz.sizeOf5
 v5 := Tryz.zeroValue5
 t9 := Tryz.underlying9
 a9 := Tryz.isAgg9
 z9 := Tryz.sizeOf9
 v9 := Tryz.zeroValue9
 t46 := Tryz.underlying168
 a46 := Tryz.isAgg168
 z46 := Tryz.sizeOf168
 v46 := Tryz.zeroValue168
 t51 := Tryz.underlying214
 a51 := Tryz.isAgg214
 z51 := Tryz.sizeOf214
 v51 := Tryz.zeroValue214
 t53 := Tryz.underlying217
 a53 := Tryz.isAgg217
 z53 := Tryz.sizeOf217
 v53 := Tryz.zeroValue217 }
theorem Tryz.bits_Len (x : Int) (w : World) (h0 : 0 ≤ x) (h1 : x ≤ 18446744073709551615) :
  Calls Tryz.prog 242 #[.int .u64 x] w fun e w' => e = .returned (.int .i64 (Lib.bitLen x.toNat)) ∧ w' = w := Any.bits_Len Tryz.lays125 x w h0 h1
end Go.Proofs

namespace Go.Te
open Go Go.Sx Go.Proofs Go.Ar Go.RowKit
set_option maxRecDepth 100000
set_option maxHeartbeats 4000000
theorem mixed : Tryz.prog.follows .mixedOrders = true := by kernel_rfl
abbrev T0 : Tb := Xz []
def rK : List AV → Option (List zN × AV)
 | [.str s, .str [c]] => some ([], .i (Lib.indexByte s c))
 | _ => none
theorem N7 : zQ Tryz.prog [] 224 rK := by
 intro xs ps r h hp
 unfold rK at h
 split at h
 ·rename_i s c
  cases h
  refine ⟨enters_of Tryz.func224 (by kernel_rfl) rfl, fun w S vals hS hg hr => ?_⟩
  match vals, hr with
  | [v, v2], ⟨hv, hv2, _⟩ =>
  obtain rfl := Z8 hv
  obtain rfl := Z8 hv2
  refine (Tryz.stringslite_Index_one ⟨s.toArray⟩ c w).mono ?_
  rintro e w' ⟨rfl, rfl⟩
  exact ⟨⟨Below.refl _ _, Nat.le_refl _⟩, _, rfl, .v _⟩
 ·cases h
theorem zv.mono {P : Program} {G : List (Nat × Obj)} {f : FuncId} {xs : List AV} {r : AV} (h : zv P [] f xs r) : zv P G f xs r :=
 ⟨h.1, fun w S vals hS _ hr => h.2 w S vals hS (fun b o hbo => by cases hbo) hr⟩
theorem yM.mono {P : Program} {G : List (Nat × Obj)} {f : FuncId} {xs : List AV} {t : TypeId} {sz len : Nat} {els : Nat → Nat → AV} (h : yM P [] f xs t sz len els) : yM P G f xs t sz len els :=
 ⟨h.1, fun w S vals hS _ hr => h.2 w S vals hS (fun b o hbo => by cases hbo) hr⟩
theorem zQ.mono {P : Program} {G : List (Nat × Obj)} {f : FuncId} {t : List AV → Option (List zN × AV)} (h : zQ P [] f t) : zQ P G f t := fun xs ps r e hp => zv.mono (h xs ps r e hp)
theorem UB.mono {P : Program} {G : List (Nat × Obj)} {f : FuncId} {t : List AV → Option (List zN × TypeId × Nat × Nat × (Nat → Nat → AV))} (h : UB P [] f t) : UB P G f t := fun xs ps ty sz len els e hp => yM.mono (h xs ps ty sz len els e hp)
def zK : Array Value := #[.string ⟨#[50]⟩, .string ⟨#[51]⟩, .string ⟨#[53]⟩, .string ⟨#[55]⟩, .string ⟨#[49, 49]⟩, .string ⟨#[49, 51]⟩, .string ⟨#[49, 55]⟩, .string ⟨#[49, 57]⟩, .string ⟨#[50, 51]⟩, .string ⟨#[50, 57]⟩, .string ⟨#[51, 49]⟩, .string ⟨#[51, 55]⟩, .string ⟨#[52, 49]⟩, .string ⟨#[52, 51]⟩, .string ⟨#[52, 55]⟩, .string ⟨#[53, 51]⟩, .string ⟨#[53, 57]⟩, .string ⟨#[54, 49]⟩, .string ⟨#[54, 55]⟩, .string ⟨#[55, 49]⟩, .string ⟨#[55, 51]⟩, .string ⟨#[55, 57]⟩, .string ⟨#[56, 51]⟩, .string ⟨#[56, 57]⟩, .string ⟨#[57, 55]⟩]
def zO (G : List (Nat × Obj)) : Prop :=
 (∃ g t fr, Tryz.prog.globalNamed "internal/strconv.uint64pow10" = some g ∧ (g, Obj.cells (Lib.pow10Tab.map fun z => Value.int .u64 z).toArray t fr) ∈ G) ∧
 ∃ t fr G', G = (1, Obj.cells zK t fr) :: G'
def PW : List AV → Option (List zN × AV)
 | [.v (.int .i64 n)] => some ([.p (ZB .i64 n)], .str (Lib.itoa n))
 | _ => none
theorem J7 {G : List (Nat × Obj)} (hG : zO G) : zQ Tryz.prog G 99 PW := by
 intro xs ps r h hp
 unfold PW at h
 split at h
 ·rename_i n
  cases h
  have hn : ZB .i64 n := hp _ List.mem_cons_self
  simp only [ZB] at hn
  refine ⟨enters_of Tryz.func99 (by kernel_rfl) rfl, fun w S vals hS hg hr => ?_⟩
  match vals, hr with
  | [v], ⟨hv, _⟩ =>
  obtain rfl := ZS hv
  obtain ⟨⟨g, t, fr, hname, hmem⟩, _⟩ := hG
  have htab : Lib.TabIs Tryz.prog w "internal/strconv.uint64pow10" .u64 Lib.pow10Tab := by
   unfold Lib.TabIs World.var?
   rw [hname]
   simp only [Option.bind_some, (hg _ _ hmem).2]
  refine (Tryz.strconv_Itoa n hn.1 hn.2 w htab).mono ?_
  rintro e w' ⟨rfl, k, os, rfl⟩
  exact ⟨⟨⟨rfl, rfl, rfl, by simp [Go.Sort.grow, World.drewN], fun b hb => by simp [Go.Sort.grow, World.drewN, Array.getElem?_append, hb]⟩, by simp [dn, Go.Sort.grow, World.drewN]⟩, _, rfl, .str _⟩
 ·cases h
noncomputable def LC (G : List (Nat × Obj)) : Tb := (Xz G).plus 99 PW
theorem YK {G : List (Nat × Obj)} (hG : zO G) : zz Tryz.prog (LC G) := zz.plus zr (J7 hG)
def J9 : List AV → Option (List zN × AV)
 | [.str s, .str p] => some ([], .b (Lib.hasPrefix s p))
 | _ => none
theorem F9 : zQ Tryz.prog [] 162 J9 := by
 intro xs ps r h hp
 unfold J9 at h
 split at h
 ·rename_i s p
  cases h
  refine ⟨enters_of Tryz.func162 (by kernel_rfl) rfl, fun w S vals hS hg hr => ?_⟩
  match vals, hr with
  | [v, v2], ⟨hv, hv2, _⟩ =>
  obtain rfl := Z8 hv
  obtain rfl := Z8 hv2
  refine (Tryz.stringslite_HasPrefix ⟨s.toArray⟩ ⟨p.toArray⟩ w).mono ?_
  rintro e w' ⟨rfl, rfl⟩
  exact ⟨⟨Below.refl _ _, Nat.le_refl _⟩, _, rfl, .v _⟩
 ·cases h
theorem Qr (s : zj) : Lib.hasPrefix s [45] = zJ s := by
 unfold Lib.hasPrefix zJ
 match s with
 | [] => rfl
 | c :: r => simp [List.isPrefixOf, Bool.beq_comm]
noncomputable def FT : Tb := (T0.plus 162 J9).body Tryz.prog [(131, .auto), (189, .auto)]
theorem uP : zz Tryz.prog FT := zz.body mixed (zz.plus zr F9) _
def Yq (g : zj → AV) : List AV → Option (List zN × AV)
 | [.str s, .str p] => some ([.b (p == [45])], g s)
 | _ => none
theorem pQ {f : FuncId} {g : zj → AV} (hf : ∀ s : zj, zv Tryz.prog [] f [.str s, .str [45]] (g s)) : zQ Tryz.prog [] f (Yq g) := by
 intro xs ps r h hp
 unfold Yq at h
 split at h
 ·rename_i s p
  cases h
  have q : (p == [45]) = true := hp _ List.mem_cons_self
  obtain rfl := eq_of_beq q
  exact hf s
 ·cases h
theorem pM {s : zj} (h : zJ s = true) : s.drop 1 = zp s ∧ 1 ≤ s.length := by
 refine ⟨by unfold zp; rw [h]; rfl, ?_⟩
 match s, h with
 | [], h => cases h
 | c :: r, _ => simp
theorem rF {s : zj} (h : zJ s = false) : s = zp s := by unfold zp; rw [h]; rfl
theorem lQ (s : zj) :
 zB [AV.str s, AV.str [(45 : UInt8)]] → zZ (Lib.hasPrefix s [(45 : UInt8)]) (bF (DB.db (iZ ≤ (↑1 : Int) ∧ (↑1 : Int) ≤ (lZ s))) (List.drop 1 s = zp s)) (s = zp s) := by
 delta bF lZ iZ
 intro hb
 simp only [sS, dS, Qr]
 refine zY.2 ⟨fun c => ?_, fun c => rF c⟩
 obtain ⟨h1, h2⟩ := pM c
 exact ⟨⟨by omega, by omega⟩, h1⟩
theorem kL (s : zj) :
 zB [AV.str s, AV.str [(45 : UInt8)]] → zZ (!Lib.hasPrefix s [(45 : UInt8)]) (j2 ∧ (True ∧ s = zp s) ∧ false = zJ s) (bF (DB.db (iZ ≤ (↑1 : Int) ∧ (↑1 : Int) ≤ (lZ s))) (j2 ∧ (True ∧ List.drop 1 s = zp s) ∧ true = zJ s)) := by
 delta bF j2 lZ iZ
 intro hb
 simp only [sS, dS, Qr]
 refine zY.2 ⟨fun c => ?_, fun c => ?_⟩
 ·rw [Bool.not_eq_true'] at c
  exact ⟨rfl, rF c, c.symm⟩
 ·rw [Bool.not_eq_false'] at c
  obtain ⟨h1, h2⟩ := pM c
  exact ⟨⟨by omega, by omega⟩, rfl, h1, c.symm⟩
theorem L8 (s : zj) :
 zB [AV.str s, AV.str [(45 : UInt8)]] → Lib.hasPrefix s [(45 : UInt8)] = zJ s := by
 intro hb
 simp only [sS, dS, Qr]
theorem W1 : zQ Tryz.prog [] 83 (Yq fun s => .str (zp s)) :=
 pQ fun s => zW mixed uP (Eq.mp (by kernel_rfl) (lQ s) : vP Tryz.prog FT 83 .auto [.str s, .str [45]] (.str (zp s)))
theorem pN : zQ Tryz.prog [] 129 (Yq fun s => .tup 2 (zw [.str (zp s), .b (zJ s)])) :=
 pQ fun s => zW mixed uP (Eq.mp (by kernel_rfl) (kL s) : vP Tryz.prog FT 129 .auto [.str s, .str [45]] (.tup 2 (zw [.str (zp s), .b (zJ s)])))
theorem RR : zQ Tryz.prog [] 102 (Yq fun s => .b (zJ s)) :=
 pQ fun s => zW mixed uP (Eq.mp (by kernel_rfl) (L8 s) : vP Tryz.prog FT 102 .auto [.str s, .str [45]] (.b (zJ s)))
def Vj : zj := [48, 49, 50, 51, 52, 53, 54, 55, 56, 57]
theorem Nf (c : UInt8) : Vj.contains c = Zd c := by
 have key : ∀ n : Fin 256, Vj.contains (UInt8.ofNat n.val) = Zd (UInt8.ofNat n.val) := by decide +kernel
 have := key ⟨c.toNat, c.toNat_lt⟩
 simpa using this
theorem vQ {p : UInt8 → Bool} : ∀ {l : zj}, l.dropWhile p = [] ↔ l.all p = true
 | [] => by simp
 | c :: r => by
  rw [List.dropWhile_cons, List.all_cons]
  cases h : p c with
  | true => simp only [if_true, Bool.true_and]; exact vQ
  | false => simp
theorem tz {p : UInt8 → Bool} : ∀ {l : zj} {c : UInt8} {r : zj}, l.dropWhile p = c :: r → p c = false
 | [], _, _, h => by cases h
 | x :: l, c, r, h => by
  rw [List.dropWhile_cons] at h
  cases hx : p x with
  | true => rw [hx, if_pos rfl] at h; exact tz h
  | false => rw [hx] at h; simp only [Bool.false_eq_true, if_false, List.cons.injEq] at h; rw [← h.1]; exact hx
theorem OO (s : zj) : (Lib.trimS s Vj == []) = s.all Zd := by
 have hp : (fun c => Vj.contains c) = Zd := funext Nf
 unfold Lib.trimS Lib.trimLeftS Lib.trimRightS
 rw [hp, Bool.eq_iff_iff, beq_iff_eq, vQ, List.all_reverse]
 constructor
 ·intro h
  rw [← List.all_reverse, ← vQ]
  cases hd : s.reverse.dropWhile Zd with
  | nil => rfl
  | cons c r =>
   rw [hd, List.all_cons, tz hd] at h
   cases h
 ·intro h
  rw [vQ.2 (by rw [List.all_reverse]; exact h)]
  rfl
def PU : List AV → Option (List zN × AV)
 | [.str s, .str c] => some ([.b (c == Vj), .p (s.length ≤ 4294967280)], .str (Lib.trimS s Vj))
 | _ => none
theorem im : zQ Tryz.prog [] 195 PU := by
 intro xs ps r h hp
 unfold PU at h
 split at h
 ·rename_i s c
  cases h
  have q : (c == Vj) = true := hp _ List.mem_cons_self
  have hl : s.length ≤ 4294967280 := hp _ (List.mem_cons_of_mem _ List.mem_cons_self)
  obtain rfl := eq_of_beq q
  refine ⟨enters_of Tryz.func195 (by kernel_rfl) rfl, fun w S vals hS hg hr => ?_⟩
  match vals, hr with
  | [v, v2], ⟨hv, hv2, _⟩ =>
  obtain rfl := Z8 hv
  obtain rfl := Z8 hv2
  have hsz : (⟨s.toArray⟩ : ByteArray).size = s.length := rfl
  by_cases h0 : s.length = 0
  ·refine (Any.strings_Trim_empty Tryz.lays160 ⟨s.toArray⟩ ⟨Vj.toArray⟩ w (.inl h0)).mono ?_
   rintro e w' ⟨rfl, rfl⟩
   have he : s = [] := List.eq_nil_of_length_eq_zero h0
   subst he
   exact ⟨⟨Below.refl _ _, Nat.le_refl _⟩, _, rfl, .str _⟩
  ·refine (Any.strings_Trim_set Tryz.lays160 (by intro w; kernel_rfl) (by kernel_rfl) ⟨s.toArray⟩ ⟨Vj.toArray⟩ w (by decide) (by omega) (by omega) (by decide) (by
    intro j b hj
    have : b ∈ Vj := List.mem_of_getElem? hj
    revert this
    exact (show ∀ x ∈ Vj, x.toNat < 128 by decide) b)).mono ?_
   rintro e w' ⟨rfl, q, rfl⟩
   refine ⟨⟨⟨rfl, rfl, rfl, ?_, fun b hb => ?_⟩, Jg (Nat.le_add_right _ _)⟩, _, rfl, .str _⟩
   ·show w.heap.size ≤ ((w.heap.push _).push _).size
    rw [Array.size_push, Array.size_push]; omega
   ·show ((w.heap.push _).push _)[b]? = _
    rw [Array.getElem?_push, if_neg (by rw [Array.size_push]; omega), Array.getElem?_push, if_neg (by omega)]
 ·cases h
theorem qO {c : UInt8} (h : Zd c = true) : Lib.digitVal c = some (Vu c) := by
 have key : ∀ n : Fin 256, Zd (UInt8.ofNat n.val) = true → Lib.digitVal (UInt8.ofNat n.val) = some (Vu (UInt8.ofNat n.val)) := by decide +kernel
 have := key ⟨c.toNat, c.toNat_lt⟩
 simp only [UInt8.ofNat_toNat] at this
 exact this h
theorem U8 : ∀ {l : zj} (a : Nat), (∀ c ∈ l, Zd c = true) → Lib.decFrom a l = some (a * 10 ^ l.length + zc l)
 | [], a, _ => by simp [Lib.decFrom, zc]
 | c :: r, a, h => by
  unfold Lib.decFrom
  rw [qO (h c List.mem_cons_self)]
  simp only
  rw [U8 _ fun x hx => h x (List.mem_cons_of_mem _ hx), xR, List.length_cons, Nat.pow_succ, Nat.add_mul]
  congr 1
  rw [Nat.mul_assoc, Nat.mul_comm 10, Nat.add_assoc]
theorem sM {l : zj} (h : Z6 l = true) : Lib.decNat l = some (zc l) := by
 obtain ⟨h1, h2, _⟩ := Zt.1 h
 unfold Lib.decNat
 rw [show l.isEmpty = false by cases l with | nil => cases h1 | cons c r => rfl]
 simp only [Bool.false_eq_true, if_false]
 rw [U8 0 h2, Nat.zero_mul, Nat.zero_add]
theorem LN {s : zj} (h : Zy s = true) : Lib.atoi s = some (zX s) := by
 rcases yd h with ⟨r, rfl, h1, _, h3⟩ | ⟨h1, h3⟩
 ·rw [h3]
  show (Lib.decNat r).map (fun (m : Nat) => -(m : Int)) = _
  rw [sM h1]; rfl
 ·rw [h3]
  obtain ⟨h4, h5, _⟩ := Zt.1 h1
  match s, h4, h5, h1 with
  | c :: r, _, h5, h1 =>
   have hc := Yu.1 (h5 c List.mem_cons_self)
   show (if c == 45 then _ else if c == 43 then _ else (Lib.decNat (c :: r)).map fun (m : Nat) => (m : Int)) = _
   rw [if_neg (by rw [beq_iff_eq]; intro e; subst e; exact absurd hc.1 (by decide)), if_neg (by rw [beq_iff_eq]; intro e; subst e; exact absurd hc.1 (by decide)), sM h1]; rfl
def uK : List AV → Option (List zN × AV)
 | [.str s] => some ([.b (Zy s), .p (s.length ≤ 18)], .tup 2 (zw [.i (zX s), .v .nilIface]))
 | _ => none
theorem RS : zQ Tryz.prog [] 134 uK := by
 intro xs ps r h hp
 unfold uK at h
 split at h
 ·rename_i s
  cases h
  have q : Zy s = true := hp _ List.mem_cons_self
  have hl : s.length ≤ 18 := hp _ (List.mem_cons_of_mem _ List.mem_cons_self)
  refine ⟨enters_of Tryz.func134 (by kernel_rfl) rfl, fun w S vals hS hg hr => ?_⟩
  match vals, hr with
  | [v], ⟨hv, _⟩ =>
  obtain rfl := Z8 hv
  refine (Tryz.strconv_Atoi ⟨s.toArray⟩ (zX s) hl (LN q) w).mono ?_
  rintro e w' ⟨rfl, t, rfl⟩
  refine ⟨⟨⟨?_, ?_, ?_, by rw [Lib.bytesWorld_size]; omega, fun b hb => Lib.bytesWorld_at_old w 5 t b hb⟩, ?_⟩, _, rfl, ?_⟩
  ·rfl
  ·rfl
  ·rfl
  ·exact Sz w 1
  ·exact .tup _ rfl fun i hi => by
    match i, hi with
    | 0, _ => exact .v _
    | 1, _ => exact .v _
 ·cases h
end Go.Te

namespace Go.Te
open Go Go.Sx Go.Proofs Go.Ar Go.RowKit
set_option maxRecDepth 100000
set_option maxHeartbeats 4000000
theorem Sd (a : zj) : Zy a = !(zp a == [] || (zp a).getD 0 0 == 48 && !(a == [48]) || !(zp a).all Zd) ∧ X3 a = (zp a).length := by
 match a with
 | [] => exact ⟨rfl, rfl⟩
 | c :: r =>
  by_cases hc : c = 45
  ·subst hc
   have h1 := sZ (a := 45 :: r) (by simp) rfl
   have ho : zp (45 :: r) = r := rfl
   rw [ho, h1.2.1, h1.2.2.1]
   refine ⟨?_, by simp⟩
   show (Z6 r && !(r == [48])) = _
   rw [show ((45 :: r : zj) == [48]) = false from rfl]
   unfold Z6
   match r with
   | [] => rfl
   | [d] =>
    cases hd : Zd d <;> cases h48 : d == 48 <;> simp_all
   | d :: e :: t =>
    simp only [List.length_cons, List.getD_cons_zero, Bool.not_false, Bool.and_true]
    rw [(Zx _ _).2 (by omega), (Zx _ _).2 (by omega), show ((d :: e :: t : zj) == []) = false from rfl, show ((d :: e :: t : zj) == [48]) = false by simp]
    cases (d :: e :: t).all Zd <;> cases d == 48 <;> rfl
  ·have hm : zJ (c :: r) = false := beq_eq_false_iff_ne.2 hc
   have ho : zp (c :: r) = c :: r := by unfold zp; rw [hm]; rfl
   obtain ⟨h1, h2, _⟩ := W8 (a := c :: r) fun h => hc h.2
   rw [ho, h1, h2]
   refine ⟨?_, rfl⟩
   unfold Z6
   match r with
   | [] =>
    cases hd : Zd c <;> cases h48 : c == 48 <;> simp_all
    rfl
   | e :: t =>
    simp only [List.length_cons, List.getD_cons_zero]
    rw [(Zx _ _).2 (by omega), (Zx _ _).2 (by omega), show ((c :: e :: t : zj) == []) = false from rfl, show ((c :: e :: t : zj) == [48]) = false by simp]
    cases (c :: e :: t).all Zd <;> cases c == 48 <;> rfl
noncomputable def eH : Tb := (T0.plus 83 (Yq fun s => .str (zp s))).plus 195 PU
theorem OL : zz Tryz.prog eH := zz.plus (zz.plus zr W1) im
def Vl : List AV → Option (List zN × AV)
 | [.str a] => some ([.p (a.length ≤ 4294967280)], .i (ZU a))
 | _ => none
theorem Nv (a : List UInt8) (hl : a.length ≤ 4294967280) :
 let q2 := (zp a == bA #[]); let q1 := (!zS false q2 || zS false q2); let q4 := (cI (UInt8.toNat (gD (zp a) 0 (0 : UInt8)))); let q3 := (q4 == (48 : Int)); let q7 := (ByteArray.data (ByteArray.mk #[(48 : UInt8)])); let q6 := (bif zp a == bA #[] then true else bif q4 == (48 : Int) then !a == Array.toList q7 else false); let q5 := (!zS false q6 || zS false q6); zB [AV.str a] → bF q1 (zZ (!zS false q2 || DB.db (iZ ≤ iZ ∧ iZ < (lZ (zp a))))
 (bF q1 (bF q1 (bF (!(zS false q2 && zS true q3) || zS false q2 && zS true q3) (bF q1 (bF (!zS false q2 || (!q4 == (48 : Int) || zS false q2 && zS true q3)) (bF (!!zp a == bA #[] || zS false q2) (bF q5 (zZ (!zS false q6 || bA #[(48 : UInt8), (49 : UInt8), (50 : UInt8), (51 : UInt8), (52 : UInt8), (53 : UInt8), (54 : UInt8), (55 : UInt8), (56 : UInt8), (57 : UInt8)] == Vj) ((zS false q6 = true → lN (zp a) ≤ nM) ∧ bF q5 (bF ((!!bif
 zp a == bA #[] then true else bif q4 == (48 : Int) then !a == Array.toList q7 else false) || zS false q6) (zZ (bif bif zp a == bA #[] then true else bif q4 == (48 : Int) then !a == Array.toList q7 else false then true else !Lib.trimS (zp a) Vj == bA #[]) (kI ∧ (11 : Int) = ZU a) (zZ (zM (300 : Int) (lZ (zp a))) (kI ∧ (4 : Int) = ZU a) (kI ∧ iZ = ZU a)))))
 False)))))))) False) := by
 delta bF bA nM cI kI lZ lN gD iZ
 dsimp only
 intro hb
 simp only [sS, dS]
 have h48 : ((((zp a).getD 0 0).toNat : Int) == 48) = ((zp a).getD 0 0 == 48) := Vf ((zp a).getD 0 0) 48 (by decide)
 obtain ⟨hI, hL⟩ := Sd a
 have hol := tL a
 rw [show (([48, 49, 50, 51, 52, 53, 54, 55, 56, 57] : zj) == Vj) = true from rfl, OO, h48]
 have e1 : (!(zp a == [])) = true → 0 < (zp a).length := fun h => by
  match hs : zp a, h with
  | c :: r, _ => simp
 refine ⟨fun h => ⟨Int.le_refl _, by have := e1 h; omega⟩, ?_⟩
 refine Tq (by cases zp a == [] <;> cases (zp a).getD 0 0 == 48 <;> rfl) ?_
 refine Tq (by cases zp a == [] <;> cases (zp a).getD 0 0 == 48 <;> cases a == [48] <;> rfl) ?_
 refine ⟨fun _ => by omega, zY.2 ⟨fun c => ?_, fun c => ?_⟩⟩
 ·rw [c] at hI
  exact (Lj (by rw [hI]; decide)).symm
 ·rw [c] at hI
  rw [kc hI, hL]
  refine ⟨fun h => ?_, fun h => ?_⟩
  ·rw [(Zx _ _).2 (by omega)]; rfl
  ·rw [show Nat.blt 300 (zp a).length = false from Bool.eq_false_iff.2 fun e => by have := (Zx _ _).1 e; omega]; rfl
theorem LH (a : List UInt8) (hl : a.length ≤ 4294967280) : zv Tryz.prog [] 133 [.str a] (.i (ZU a)) :=
 zW (T := eH) (an := .auto) mixed OL (Eq.mp (by kernel_rfl) (Nv a hl))
theorem qo : zQ Tryz.prog [] 133 Vl := by
 intro xs ps r h hp
 unfold Vl at h
 split at h
 ·skip
  rename_i a
  cases h
  obtain ⟨q0, -⟩ := ZT hp
  exact weaken (ys := [.str a]) ⟨zV _, trivial⟩ (LH a q0)
 ·cases h
def Sf : List AV → Option (List zN × AV)
 | [.str a, .str b] => some ([.p (a.length ≤ 4294967280), .p (b.length ≤ 4294967280)], .i (zb a b))
 | _ => none
theorem LP (a : List UInt8) (b : List UInt8) (hl : a.length ≤ 4294967280) (hm : b.length ≤ 4294967280) :
 zB [AV.str a, AV.str b] → lN a ≤ nM ∧ zZ (ZU a != iZ) (kI ∧ ZU a = zb a b) (lN b ≤ nM ∧ kI ∧ ZU b = zb a b) := by
 delta nM kI lN iZ
 intro hb
 simp only [sS, dS]
 exact ⟨hl, fun h => by unfold zb; rw [bne_iff_ne.2 h]; rfl, fun h => ⟨hm, by unfold zb; rw [h]; rfl⟩⟩
theorem Kb (a : List UInt8) (b : List UInt8) (hl : a.length ≤ 4294967280) (hm : b.length ≤ 4294967280) : zv Tryz.prog [] 85 [.str a, .str b] (.i (zb a b)) :=
 zW (T := T0.plus 133 Vl) (an := .auto) mixed (zz.plus zr qo) (Eq.mp (by kernel_rfl) (LP a b hl hm))
theorem JV : zQ Tryz.prog [] 85 Sf := by
 intro xs ps r h hp
 unfold Sf at h
 split at h
 ·skip
  rename_i a b
  cases h
  obtain ⟨q0, q1, -⟩ := ZT hp
  exact weaken (ys := [.str a, .str b]) ⟨zV _, zV _, trivial⟩ (Kb a b q0 q1)
 ·cases h
def tt : List AV → Option (List zN × AV)
 | [.str a, .str b, .v (.int .i64 m)] => some ([.p (Zy a = true), .p (Zy b = true), .p (m = 18)], .tup 3 (zw [.i (bif leB a.length 18 && leB b.length 18 then zX a else 0), .i (bif leB a.length 18 && leB b.length 18 then zX b else 0), .b (leB a.length 18 && leB b.length 18)]))
 | _ => none
theorem Of (a : List UInt8) (b : List UInt8) (m : Int) (ha : Zy a = true) (hb' : Zy b = true) (hm : m = 18) :
 zB [AV.str a, AV.str b, aI m] → bF (!zS false (zM m (lZ a)) || zS false (zM m (lZ a))) (bF (!zS false (zM m (lZ a)) || zS false (zM m (lZ a))) (bF (!zS false (zM m (lZ a)) || zS false (zM m (lZ a))) (bF (!!zM m (lZ a) || zS false (zM m (lZ a))) (zZ (bif zM m (lZ a) then true else zM m (lZ b)) (3 = lN [AV.junk, AV.junk, AV.junk] ∧ ((True ∧
 kI ∧ iZ = bif leB (lZ a) (18 : Int) && leB (lZ b) (18 : Int) then zX a else iZ) ∧ kI ∧ iZ = bif leB (lZ a) (18 : Int) && leB (lZ b) (18 : Int) then zX b else iZ) ∧ false = (leB (lZ a) (18 : Int) && leB (lZ b) (18 : Int))) (bF (Zy a) (lN a ≤ 18 ∧ bF (Zy b) (lN b ≤ 18 ∧ 3 = lN [AV.junk, AV.junk, AV.junk] ∧ ((True ∧ kI ∧ zX a = bif leB (lZ a) (18 : Int)
 && leB (lZ b) (18 : Int) then zX a else iZ) ∧ kI ∧ zX b = bif leB (lZ a) (18 : Int) && leB (lZ b) (18 : Int) then zX b else iZ) ∧ (bif true then true else false) = (leB (lZ a) (18 : Int) && leB (lZ b) (18 : Int))))))))) := by
 delta bF kI lZ lN iZ aI
 intro hb
 simp only [sS, dS]
 subst hm
 have e : (zM 18 (a.length : Int) || zM 18 (b.length : Int)) = !(leB (a.length : Int) 18 && leB (b.length : Int) 18) := by
  rw [Bool.eq_iff_iff, Bool.or_eq_true, zq, zq, Bool.not_eq_true', Bool.and_eq_false_iff, Bool.eq_false_iff, Bool.eq_false_iff, Ne, Ne, z8, z8]
  omega
 rw [e]
 refine zY.2 ⟨fun c => ?_, fun c => ?_⟩
 ·rw [Bool.not_eq_true'] at c
  rw [c]
  exact ⟨rfl, ⟨rfl, rfl⟩, rfl⟩
 ·rw [Bool.not_eq_false'] at c
  have c' := c
  rw [Bool.and_eq_true, z8, z8] at c'
  rw [c, ha, hb', X6, X6]
  exact ⟨by omega, by omega, rfl, ⟨rfl, rfl⟩, rfl⟩
theorem mJ (a : List UInt8) (b : List UInt8) (m : Int) (ha : Zy a = true) (hb' : Zy b = true) (hm : m = 18) : zv Tryz.prog [] 86 [.str a, .str b, .i m] (.tup 3 (zw [.i (bif leB a.length 18 && leB b.length 18 then zX a else 0), .i (bif leB a.length 18 && leB b.length 18 then zX b else 0), .b (leB a.length 18 && leB b.length 18)])) :=
 zW (T := T0.plus 134 uK) (an := .auto) mixed (zz.plus zr RS) (Eq.mp (by kernel_rfl) (Of a b m ha hb' hm))
theorem Mn : zQ Tryz.prog [] 86 tt := by
 intro xs ps r h hp
 unfold tt at h
 split at h
 ·skip
  rename_i a b m
  cases h
  obtain ⟨q0, q1, q2, -⟩ := ZT hp
  exact weaken (ys := [.str a, .str b, .i m]) ⟨zV _, zV _, zV _, trivial⟩ (mJ a b m q0 q1 q2)
 ·cases h
end Go.Te

namespace Go.Te
open Go Go.Sx Go.Proofs Go.Ar
set_option maxRecDepth 100000
set_option maxHeartbeats 4000000
theorem na {a : zj} (h : Zy a = true) : (zX a).natAbs < 10 ^ a.length := by
 by_cases hm : a.getD 0 0 = 45
 ·have h0 : 0 < a.length := by
   match a, h with
   | [], h => cases h
   | c :: r, _ => simp
  obtain ⟨_, hm1, _, hm4⟩ := sZ h0 hm
  rw [hm4]
  rw [h] at hm1
  have hd : Z6 (a.drop 1) = true := by
   cases hx : Z6 (a.drop 1) with
   | true => rfl
   | false => rw [hx] at hm1; cases hm1
  have := vS (l := a.drop 1) (List.all_eq_true.2 (Zt.1 hd).2.1)
  have h3 : 10 ^ (a.drop 1).length ≤ 10 ^ a.length := Nat.pow_le_pow_right (by omega) (by simp)
  omega
 ·obtain ⟨hp1, _, hp3⟩ := W8 (a := a) fun e => hm e.2
  rw [hp3]
  have := vS (l := a) (List.all_eq_true.2 (Zt.1 (hp1.symm.trans h)).2.1)
  omega
theorem Pj (x : Int) : (if -x > x then -x else x) = (x.natAbs : Int) := by split <;> omega
def yh (a b : zj) : Nat := Nat.gcd (zX a).natAbs (zX b).natAbs
structure W9 where
 x : Int
 y : Int
def uR : List AV → Option (List zN × AV)
 | [.v (.int .i64 x), .v (.int .i64 y)] => some ([], .i (Yh x y))
 | _ => none
theorem Jx (x : Int) (y : Int) :
 let q1 := (kI ∧ iZ = Yh x y); let q2 := (kI ∧ (-1 : Int) = Yh x y); let q3 := (kI ∧ iO = Yh x y); zB [aI x, aI y] → zZ (x != x) (zZ (y != y) q1 q2) (zZ (y != y) q3 (zZ (zM x y) q2 (zZ (zM y x) q3 q1))) := by
 delta kI iZ iO aI
 dsimp only
 intro hb
 simp only [sS, dS]
 unfold Yh
 refine ⟨fun h => absurd rfl h, fun _ => ⟨fun h => absurd rfl h, fun _ => ⟨fun h => ?_, fun h => ⟨fun h2 => ?_, fun h2 => ?_⟩⟩⟩⟩
 ·rw [(zq _ _).2 h]; rfl
 ·rw [show zM x y = false from Bool.eq_false_iff.2 fun e => by have := (zq _ _).1 e; omega, beq_eq_false_iff_ne.2 (by omega)]; rfl
 ·rw [show x = y by omega, show zM y y = false from Bool.eq_false_iff.2 fun e => by have := (zq _ _).1 e; omega, beq_self_eq_true]; rfl
theorem gn (x : Int) (y : Int) : zv Tryz.prog [] 31 [.i x, .i y] (.i (Yh x y)) :=
 zW (T := T0.body Tryz.prog [(81, .auto)]) (an := .auto) mixed (zz.body mixed zr _) (Eq.mp (by kernel_rfl) (Jx x y))
theorem RX : zQ Tryz.prog [] 31 uR := by
 intro xs ps r h hp
 unfold uR at h
 split at h
 ·skip
  rename_i x y
  cases h
  exact weaken (ys := [.i x, .i y]) ⟨zV _, zV _, trivial⟩ (gn x y)
 ·cases h
theorem Rw {a b q r : Int} (h : r + b * q = a) (hr : (0 < b ∧ 0 ≤ r ∧ r < b) ∨ (b < 0 ∧ b < r ∧ r ≤ 0)) : Int.fdiv a b = q ∧ Int.fmod a b = r := by
 rcases hr with ⟨h0, h1, h2⟩ | ⟨h0, h1, h2⟩
 ·rw [Int.fdiv_eq_ediv_of_nonneg _ (by omega), Int.fmod_eq_emod_of_nonneg _ (by omega)]
  exact (Int.ediv_emod_unique h0).2 ⟨h, h1, h2⟩
 ·have h3 : (-a) / (-b) = q ∧ (-a) % (-b) = -r := (Int.ediv_emod_unique (by omega)).2 ⟨by rw [Int.neg_mul]; omega, by omega, by omega⟩
  rw [← Int.neg_fdiv_neg, Int.fdiv_eq_ediv_of_nonneg _ (by omega)]
  refine ⟨h3.1, ?_⟩
  have h4 := Int.neg_fmod_neg a b
  rw [Int.fmod_eq_emod_of_nonneg _ (by omega), h3.2] at h4
  omega
theorem mw {a b : Int} (hb : b ≠ 0) :
  ((a.tmod b != 0 && !(zM (a.tmod b) 0 == zM b 0)) = true → Int.fdiv a b = a.tdiv b - 1 ∧ Int.fmod a b = a.tmod b + b) ∧
  ((a.tmod b != 0 && !(zM (a.tmod b) 0 == zM b 0)) = false → Int.fdiv a b = a.tdiv b ∧ Int.fmod a b = a.tmod b) ∧ (a.tmod b).natAbs < b.natAbs ∧ (a.tdiv b).natAbs ≤ a.natAbs := by
 have e := Int.mul_tdiv_add_tmod a b
 have m : (a.tmod b).natAbs < b.natAbs := by rw [Int.natAbs_tmod]; exact Nat.mod_lt _ (by omega)
 refine ⟨fun c => Rw ?_ ?_, fun c => Rw (by omega) ?_, m, Int.natAbs_tdiv_le_natAbs a b⟩
 ·rw [Int.mul_sub, Int.mul_one]; omega
 all_goals
  generalize a.tmod b = r at *
  rcases Int.lt_or_le b 0 with h1 | h1 <;> rcases Int.lt_or_le r 0 with h2 | h2
  ·rw [(zq _ _).2 h1, (zq _ _).2 h2] at c
   simp at c <;> omega
  ·rw [(zq _ _).2 h1, show zM r 0 = false from Bool.eq_false_iff.2 fun e => by have := (zq _ _).1 e; omega] at c
   simp at c <;> omega
  ·rw [(zq _ _).2 h2, show zM b 0 = false from Bool.eq_false_iff.2 fun e => by have := (zq _ _).1 e; omega] at c
   simp at c <;> omega
  ·rw [show zM b 0 = false from Bool.eq_false_iff.2 fun e => by have := (zq _ _).1 e; omega, show zM r 0 = false from Bool.eq_false_iff.2 fun e => by have := (zq _ _).1 e; omega] at c
   simp at c <;> omega
end Go.Te

namespace Go.Te
open Go Go.Sx Go.Proofs Go.Ar
set_option maxRecDepth 100000
set_option maxHeartbeats 4000000
def Wz (s : zj) : zj := s.takeWhile Zd
def yy (s : zj) : Bool := Z6 (Wz s) && leB ((Wz s).length : Int) 8
def ZV (s : zj) : Int := bif yy s then (zc (Wz s) : Int) else 0
def Zz (s : zj) : zj := bif yy s then s.drop (Wz s).length else []
theorem rC {a b : zj} (h : ∀ c ∈ a, Zd c = true) : Wz (a ++ b) = a ++ Wz b := by
 unfold Wz
 exact List.takeWhile_append_of_pos h
theorem Us {s : zj} {z : Nat} (h1 : z ≤ s.length) (h2 : ∀ i, i < z → Zd (s.getD i 0) = true) : ∀ c ∈ s.take z, Zd c = true := fun c hc => by
 obtain ⟨i, hi, e⟩ := tP hc
 rw [List.length_take] at hi
 rw [← e, getD_takeS (by omega)]
 exact h2 i (by omega)
theorem oQ {s : zj} {z : Nat} (h1 : z ≤ s.length) (h2 : ∀ i, i < z → Zd (s.getD i 0) = true) (h3 : z = s.length ∨ Zd (s.getD z 0) = false) : Wz s = s.take z := by
 conv => lhs; rw [← List.take_append_drop z s]
 rw [rC (Us h1 h2)]
 have : Wz (s.drop z) = [] := by
  by_cases hz : z = s.length
  ·rw [List.drop_of_length_le (by omega)]; rfl
  ·rw [tn (by omega)]
   unfold Wz
   rw [List.takeWhile_cons, h3.resolve_left hz]
   rfl
 rw [this, List.append_nil]
theorem Gg {s : zj} {z : Nat} (h1 : z ≤ s.length) (h2 : ∀ i, i < z → Zd (s.getD i 0) = true) : z ≤ (Wz s).length := by
 have : Wz s = s.take z ++ Wz (s.drop z) := by
  conv => lhs; rw [← List.take_append_drop z s]
  exact rC (Us h1 h2)
 rw [this, List.length_append, List.length_take]
 omega
theorem M2 {s : zj} {z : Nat} (h1 : z ≤ s.length) (h2 : ∀ i, i < z → Zd (s.getD i 0) = true) (h3 : z = s.length ∨ 8 < z ∨ Zd (s.getD z 0) = false) :
  yy s = !((z : Int) == 0 || zM 8 (z : Int) || zM 1 (z : Int) && ((s.getD 0 0).toNat : Int) == 48) ∧ (yy s = true → Wz s = s.take z) := by
 by_cases h8 : 8 < z
 ·have hg := Gg h1 h2
  have e : yy s = false := by
   unfold yy
   rw [show leB ((Wz s).length : Int) 8 = false from Bool.eq_false_iff.2 fun e => by have := (z8 _ _).1 e; omega, Bool.and_false]
  rw [e, (zq _ _).2 (show (8 : Int) < (z : Int) by omega)]
  exact ⟨by simp, fun h => by cases h⟩
 ·have ht := oQ h1 h2 (h3.imp id fun h => h.resolve_left h8)
  refine ⟨?_, fun _ => ht⟩
  have e48 : (((s.getD 0 0).toNat : Int) == 48) = (s.getD 0 0 == 48) := Vf (s.getD 0 0) 48 (by decide)
  unfold yy
  have hl : (s.take z).length = z := by rw [List.length_take]; omega
  rw [ht, hl, e48, (z8 _ _).2 (show (z : Int) ≤ 8 by omega), Bool.and_true, show zM 8 (z : Int) = false from Bool.eq_false_iff.2 fun e => by have := (zq _ _).1 e; omega]
  unfold Z6
  rw [hl, List.all_eq_true.2 (Us h1 h2), show zM 1 (z : Int) = Nat.blt 1 z from by rw [Bool.eq_iff_iff, zq, Zx]; omega]
  by_cases h0 : z = 0
  ·subst h0; rfl
  ·rw [(Zx _ _).2 (show 0 < z by omega), beq_eq_false_iff_ne.2 (show (z : Int) ≠ 0 by omega), getD_takeS (show 0 < z by omega)]
   cases Nat.blt 1 z <;> cases s.getD 0 0 == 48 <;> rfl
def Mf (s : zj) : yV :=
 .two .auto (.two .auto (.two (.one (.loop Nat (fun σ z => [(0, σ.tm 0), (5, .i (zc (s.take z) : Int)), (6, .i (z : Int))]) (fun σ z => []) 0 (fun σ z => z ≤ s.length ∧ z ≤ 9 ∧ ∀ i, i < z → Zd (s.getD i 0) = true) (fun σ z => s.length - z) .auto)) .auto))
def RQ : List AV → Option (List zN × AV)
 | [.str s] => some ([.p (s.length ≤ 9223372036854775807)], .tup 3 (zw [.i (ZV s), .str (Zz s), .b (yy s)]))
 | _ => none
theorem LM (s : List UInt8) (hl : s.length ≤ 9223372036854775807) :
 zB [AV.str s] → (∃ (z : Nat), ((z ≤ lN s ∧ z ≤ 9 ∧ ∀ (i : Nat), i < z → Zd (gD s i (0 : UInt8)) = true) ∧ s = s ∧ (kI ∧ iZ = (cI (zc (List.take z s)))) ∧ kI ∧ iZ = (cI z)) ∧ True) ∧ ∀ (z : Nat), let q1 := (zM (cI z) (lZ s)); let q3 := (bif zM (cI z) (lZ s) then leB (cI z) (8 : Int) else false); let q2 := (!zS true q3 || zS true q3); let q4 := (iZ ≤ (cI z) ∧ (cI z) < (lZ s)); let q7 := (cI (UInt8.toNat (gD s (Int.toNat (↑z : Int))
 (0 : UInt8)))); let q6 := (bif bif zM (cI z) (lZ s) then leB (cI z) (8 : Int) else false then leB (48 : Int) q7 else false); let q5 := (!zS true q6 || zS true q6); let q8 := (q7 - (48 : Int)); let q10 := (bif (cI z) == iZ then true else zM (8 : Int) (cI z)); let q9 := (!zS false q10 || zS false q10); let q12 := (zS false q10 && zS true (zM iO (cI z))); let q11 := (!q12 || zS false q10 && zS true (zM iO (cI z))); (z ≤ lN s ∧ z ≤ 9 ∧ ∀ (i : Nat), i < z → Zd (gD s i (0 : UInt8)) = true) →
 bF (!zS true q1 || zS true q1) (bF (!zM (cI z) (lZ s) || zS true q1) (bF q2 (bF q2 (bF (!zS true q3 || DB.db q4) (bF q2 (bF ((!bif zM (cI z) (lZ s) then leB (cI z) (8 : Int) else false) || zS true q3) (bF q5 (bF q5 (bF (!zS true q6 || DB.db q4) (bF q5 (bF ((!bif bif zM (cI z) (lZ s) then leB (cI z) (8 : Int) else false then leB (48 : Int) q7 else false) || zS true q6) (zZ (bif bif bif zM (cI z) (lZ s) then leB (cI z) (8 : Int)
 else false then leB (48 : Int) q7 else false then leB q7 (57 : Int) else false) (bF (dK ((10 : Int) * (cI (zc (List.take z s))))) (bF (DB.db q4) (bF (DB.db (ZB IntKind.u8 q8)) (bF (dK q8) (bF (dK ((10 : Int) * (cI (zc (List.take z s))) + q8)) (bF (dK ((cI z) + iO)) (∃ (z' : Nat), (((z' ≤ lN s ∧ z' ≤ 9 ∧ ∀ (i : Nat), i < z' → Zd (gD s i (0 : UInt8)) = true) ∧ lN s - z' < lN s - z) ∧ s = s ∧ (kI ∧ (10 : Int) * (cI (zc (List.take z s))) +
 q8 = (cI (zc (List.take z' s)))) ∧ kI ∧ (cI z) + iO = (cI z')) ∧ True))))))) (bF (!zS false ((cI z) == iZ) || zS false ((cI z) == iZ)) (bF (!!(cI z) == iZ || zS false ((cI z) == iZ)) (bF q9 (bF q9 (bF q11 (bF (!q12 || DB.db (iZ ≤ iZ ∧ iZ < (lZ s))) (bF q11 (bF q9 (bF (!zS false q10 || (!zM iO (cI z) || zS false q10 && zS true (zM iO (cI z)))) (bF ((!!bif (cI z)
 == iZ then true else zM (8 : Int) (cI z)) || zS false q10) (zZ (bif bif (cI z) == iZ then true else zM (8 : Int) (cI z) then true else bif zM iO (cI z) then (cI (UInt8.toNat (gD s 0 (0 : UInt8)))) == (48 : Int) else false) (3 = lN [AV.junk, AV.junk, AV.junk] ∧ ((True ∧ kI ∧ iZ = ZV s) ∧ bA #[] = Zz s) ∧ false = yy s) (bF (DB.db (iZ ≤ (cI z) ∧ (cI z) ≤ (lZ s))) (3 = lN [AV.junk, AV.junk, AV.junk] ∧ ((True ∧
 kI ∧ (cI (zc (List.take z s))) = ZV s) ∧ List.drop (Int.toNat (cI z)) s = Zz s) ∧ true = yy s))))))))))))))))))))))))) := by
 delta bF dK bA cI kI lZ lN gD iZ iO
 dsimp only
 intro hb
 simp only [sS, dS, xJ, EH]
 have dg2 : ∀ c : UInt8, (leB 48 (c.toNat : Int) && leB (c.toNat : Int) 57) = Zd c := fun c => by rw [Bool.eq_iff_iff, Bool.and_eq_true, z8, z8, Yu]; omega
 simp only [Bool.and_assoc, dg2]
 refine ⟨⟨0, ⟨Nat.zero_le _, Nat.zero_le _, fun i hi => absurd hi (Nat.not_lt_zero _)⟩, rfl, rfl⟩, fun z ⟨z1, z2, z3⟩ => ⟨fun h => ?_, fun h => ?_, zY.2 ⟨fun c => ?_, fun c => ⟨fun h => ?_, ?_⟩⟩⟩⟩
 ·rw [Bool.and_eq_true] at h; have := (zq _ _).1 h.1; omega
 ·rw [Bool.and_eq_true] at h; have := (zq _ _).1 h.1; omega
 ·rw [Bool.and_eq_true, Bool.and_eq_true] at c
  obtain ⟨c1, c2, c3⟩ := c
  have c1 : z < s.length := by have := (zq _ _).1 c1; omega
  have c2 : z ≤ 8 := by have := (z8 _ _).1 c2; omega
  have hd := Yu.1 c3
  have hst : (zc (s.take (z + 1)) : Int) = 10 * (zc (s.take z) : Int) + (((s.getD z 0).toNat : Int) - 48) := by
   rw [pS (by omega), VE]
   unfold Vu
   omega
  have b1 : zc (s.take z) < 10 ^ 9 := by
   have h1 := vS (l := s.take z) (List.all_eq_true.2 (Us z1 z3))
   exact Nat.lt_of_lt_of_le h1 (Nat.pow_le_pow_right (by omega) (by rw [List.length_take]; omega))
  rw [show 10 ^ 9 = 1000000000 from by decide] at b1
  refine ⟨⟨by omega, by omega⟩, ⟨by omega, by omega⟩, ⟨by omega, by omega⟩, ⟨by omega, by omega⟩, ⟨by omega, by omega⟩, ⟨by omega, by omega⟩, z + 1, ⟨⟨by omega, by omega, fun i hi => ?_⟩, by omega⟩, hst.symm, by omega⟩
  by_cases e : i = z
  ·rw [e]; exact c3
  ·exact z3 i (by omega)
 ·rw [Bool.and_eq_true, zq] at h; exact ⟨by omega, by omega⟩
 ·have h3 : z = s.length ∨ 8 < z ∨ Zd (s.getD z 0) = false := by
   by_cases q1 : z = s.length
   ·exact .inl q1
   by_cases q2 : 8 < z
   ·exact .inr (.inl q2)
   refine .inr (.inr ?_)
   have q3 : zM (z : Int) (s.length : Int) = true := (zq _ _).2 (by omega)
   have q4 : leB (z : Int) 8 = true := (z8 _ _).2 (by omega)
   rw [q3, q4] at c
   simpa using c
  obtain ⟨k1, k2⟩ := M2 z1 z3 h3
  refine Tq (by cases ((z : Int) == 0 || zM 8 (z : Int)) <;> cases zM 1 (z : Int) <;> rfl) ?_
  unfold ZV Zz
  refine zY.2 ⟨fun c2 => ?_, fun c2 => ?_⟩
  ·rw [c2] at k1
   rw [k1]
   exact ⟨rfl, ⟨rfl, rfl⟩, rfl⟩
  ·rw [c2] at k1
   have ht := k2 k1
   rw [k1, ht, List.length_take, show min z s.length = z by omega]
   exact ⟨⟨by omega, by omega⟩, rfl, ⟨rfl, rfl⟩, rfl⟩
theorem js (s : List UInt8) (hl : s.length ≤ 9223372036854775807) : zv Tryz.prog [] 79 [.str s] (.tup 3 (zw [.i (ZV s), .str (Zz s), .b (yy s)])) :=
 zW (T := T0) (an := Mf s) mixed zr (Eq.mp (by kernel_rfl) (LM s hl))
theorem K4 : zQ Tryz.prog [] 79 RQ := by
 intro xs ps r h hp
 unfold RQ at h
 split at h
 ·skip
  rename_i s
  cases h
  obtain ⟨q0, -⟩ := ZT hp
  exact weaken (ys := [.str s]) ⟨zV _, trivial⟩ (js s q0)
 ·cases h
def Wo (x y : Int) : Int := bif leB 0 x && leB 0 y then (Nat.gcd x.toNat y.toNat : Int) else 0
def Kj (x y : Int) : yV :=
 .two .auto (.two (.one (.loop W9 (fun σ z => [(0, .i z.x), (1, .i z.y)]) (fun σ z => []) 0 (fun σ z => 0 ≤ z.x ∧ 0 ≤ z.y ∧ z.x ≤ 9223372036854775807 ∧ z.y ≤ 9223372036854775807 ∧ Nat.gcd z.x.toNat z.y.toNat = Nat.gcd x.toNat y.toNat) (fun σ z => z.y.toNat) .auto)) .auto)
def S5 : List AV → Option (List zN × AV)
 | [.v (.int .i64 x), .v (.int .i64 y)] => some ([.p (0 ≤ x ∧ x ≤ 9223372036854775807), .p (0 ≤ y ∧ y ≤ 9223372036854775807)], .i (Wo x y))
 | _ => none
theorem KJ (x : Int) (y : Int) (h1 : 0 ≤ x ∧ x ≤ 9223372036854775807) (h2 : 0 ≤ y ∧ y ≤ 9223372036854775807) :
 zB [aI x, aI y] → (∃ (z : W9), ((iZ ≤ W9.x z ∧ iZ ≤ W9.y z ∧ W9.x z ≤ iX ∧ W9.y z ≤ iX ∧ Nat.gcd (Int.toNat (W9.x z)) (Int.toNat (W9.y z)) = Nat.gcd (Int.toNat x) (Int.toNat y)) ∧ (kI ∧ x = W9.x z) ∧ kI ∧ y = W9.y z) ∧ True) ∧ ∀ (z : W9), iZ ≤ W9.x z ∧ iZ ≤ W9.y z ∧ W9.x z ≤ iX ∧ W9.y z ≤ iX ∧ Nat.gcd (Int.toNat (W9.x z)) (Int.toNat (W9.y z)) = Nat.gcd (Int.toNat x) (Int.toNat y) →
 zZ (W9.y z != iZ) (bF (DB.db (W9.y z ≠ iZ)) (∃ (z' : W9), (((iZ ≤ W9.x z' ∧ iZ ≤ W9.y z' ∧ W9.x z' ≤ iX ∧ W9.y z' ≤ iX ∧ Nat.gcd (Int.toNat (W9.x z')) (Int.toNat (W9.y z')) = Nat.gcd (Int.toNat x) (Int.toNat y)) ∧ Int.toNat (W9.y z') < Int.toNat (W9.y z)) ∧ (kI ∧ W9.y z = W9.x z') ∧ kI ∧ Int.tmod (W9.x z) (W9.y z) = W9.y z') ∧ True)) (kI ∧ W9.x z = Wo x y) := by
 delta bF kI iZ iX aI
 intro hb
 simp only [sS, dS]
 have hO : Wo x y = (Nat.gcd x.toNat y.toNat : Int) := by unfold Wo; rw [(z8 _ _).2 h1.1, (z8 _ _).2 h2.1]; rfl
 rw [hO]
 refine ⟨⟨⟨x, y⟩, ⟨h1.1, h2.1, h1.2, h2.2, rfl⟩, rfl, rfl⟩, fun z ⟨z1, z2, z3, z4, z5⟩ => ⟨fun hy => ?_, fun hy => ?_⟩⟩
 ·generalize z.x = zx at *
  generalize z.y = zy at *
  obtain ⟨X, rfl⟩ : ∃ X : Nat, zx = X := ⟨zx.toNat, by omega⟩
  obtain ⟨Y, rfl⟩ : ∃ Y : Nat, zy = Y := ⟨zy.toNat, by omega⟩
  have tm : (X : Int).tmod (Y : Int) = ((X % Y : Nat) : Int) := by rw [Int.tmod_eq_emod_of_nonneg (by omega)]; omega
  have hm : X % Y < Y := Nat.mod_lt _ (by omega)
  refine ⟨hy, ⟨Y, ((X % Y : Nat) : Int)⟩, ⟨⟨by simp only; omega, by simp only; omega, by simp only; omega, by simp only; omega, ?_⟩, by simp only; omega⟩, rfl, tm⟩
  simp only [Int.toNat_natCast] at z5 ⊢
  rw [← Ts (by omega)]; exact z5
 ·rw [hy] at z5
  simp only [Int.toNat_zero, Nat.gcd_zero_right] at z5
  omega
theorem gm (x : Int) (y : Int) (h1 : 0 ≤ x ∧ x ≤ 9223372036854775807) (h2 : 0 ≤ y ∧ y ≤ 9223372036854775807) : zv Tryz.prog [] 80 [.i x, .i y] (.i (Wo x y)) :=
 zW (T := T0) (an := Kj x y) mixed zr (Eq.mp (by kernel_rfl) (KJ x y h1 h2))
theorem Ng : zQ Tryz.prog [] 80 S5 := by
 intro xs ps r h hp
 unfold S5 at h
 split at h
 ·skip
  rename_i x y
  cases h
  obtain ⟨q0, q1, -⟩ := ZT hp
  exact weaken (ys := [.i x, .i y]) ⟨zV _, zV _, trivial⟩ (gm x y q0 q1)
 ·cases h
end Go.Te
