/- Contracts of the library at this program, laid out of the kit's shelf by its own tools, reduced. -/
import Derived.Shelf.Small.Bits
import Derived.Shelf.Strconv.Atoi
import Derived.Shelf.Strconv.Itoa3
import Derived.Shelf.Strings.Search2
import Derived.Shelf.Strings.Prefix
import Derived.Shelf.LaysM
import Derived.Test.YtgpbohfbhfbelaaGreatDoorProg
import Derived.Test.YtgpbohfbhfbelaaGreatDoorArO
import Derived.Test.YtgpbohfbhfbelaaGreatDoorArA
import Derived.Shelf.Strings.SlTrimAscii
import Derived.Test.YtgpbohfbhfbelaaGreatDoorSxS
set_option linter.unusedSimpArgs false
set_option linter.unusedVariables false
namespace Go.Proofs
open Go.Shelf
def Tryz.lays219_ren : Go.Shelf.Ren := ⟨fun | 219 => 224 | 217 => 251 | 225 => 252 | 224 => 253 | 267 => 254 | 266 => 276 | 314 => 277 | n => n, fun | 9 => 9 | 3 => 3 | 4 => 4 | 5 => 5 | 46 => 168 | 146 => 215 | 51 => 214 | n => n, fun | 1 => 2 | n => n⟩
theorem Tryz.lays219 : Go.Proofs.Lays.n219 Tryz.prog Tryz.lays219_ren := {
 mixed := by kernel_rfl
 f217 := Tryz.func251.trans (congrArg some (by kernel_rfl))
 f219 := Tryz.func224.trans (congrArg some (by kernel_rfl))
 f224 := Tryz.func253.trans (congrArg some (by kernel_rfl))
 f225 := Tryz.func252.trans (congrArg some (by kernel_rfl))
 f266 := Tryz.func276.trans (congrArg some (by kernel_rfl))
 f267 := Tryz.func254.trans (congrArg some (by kernel_rfl))
 f314 := Tryz.func277.trans (congrArg some (by kernel_rfl))
 t3 := Tryz.underlying3
 a3 := Tryz.isAgg3
 z3 := Tryz.sizeOf3
 v3 := Tryz.zeroValue3
 t4 := Tryz.underlying4
 a4 := Tryz.isAgg4
 z4 := Tryz.sizeOf4
 v4 := Tryz.zeroValue4
 t5 := Tryz.underlying5
 a5 := Tryz.isAgg5
 z5 := Tryz.sizeOf5
 v5 := Tryz.zeroValue5
 t9 := Tryz.underlying9
 a9 := Tryz.isAgg9
 z9 := Tryz.sizeOf9
 v9 := Tryz.zeroValue9
 t46 := Tryz.underlying168
 a46 := Tryz.isAgg168
 z46 := Tryz.sizeOf168
 v46 := Tryz.zeroValue168
 t51 := Tryz.underlying214
 a51 := Tryz.isAgg214
 z51 := Tryz.sizeOf214
 v51 := Tryz.zeroValue214
 t146 := Tryz.underlying215
 a146 := Tryz.isAgg215
 z146 := Tryz.sizeOf215
 v146 := Tryz.zeroValue215
 g1 := by kernel_rfl }
open Go.RowKit Go.Lib in
theorem Tryz.stringslite_Index_one (s : ByteArray) (c : UInt8) (w : World) :
  Calls Tryz.prog 224 #[.string s, .string ⟨#[c]⟩] w fun e w' => e = .returned (.int .i64 (Lib.indexByte s.data.toList c)) ∧ w' = w := Any.stringslite_Index_one Tryz.lays219 s c w
def Tryz.laysM171_ren : Go.Shelf.Ren := ⟨fun | 171 => 99 | 243 => 159 | 246 => 211 | 283 => 243 | 284 => 244 | 285 => 245 | 286 => 246 | 129 => 271 | 317 => 272 | 318 => 273 | 319 => 274 | 320 => 275 | 337 => 288 | 338 => 289 | n => n, fun | 3 => 3 | 9 => 9 | 2 => 2 | 4 => 4 | 171 => 263 | 0 => 0 | 53 => 217 | 37 => 172 | 5 => 5 | 173 => 266 | 212 => 289 | 51 => 214 | 20 => 20 | 213 => 290 | 46 => 168 | 232 => 310 | 233 => 311 | n => n, fun | 17 => 5 | 18 => 8 | 19 => 9 | n => n⟩
theorem Tryz.laysM171 : Go.Proofs.LaysM.n171 Tryz.prog Tryz.laysM171_ren := {
 mixed := by kernel_rfl
 f129 := Tryz.func271.trans (congrArg some (by kernel_rfl))
 f171 := Tryz.func99.trans (congrArg some (by kernel_rfl))
 f243 := Tryz.func159.trans (congrArg some (by kernel_rfl))
 f246 := Tryz.func211.trans (congrArg some (by kernel_rfl))
 f283 := Tryz.func243.trans (congrArg some (by kernel_rfl))
 f284 := Tryz.func244.trans (congrArg some (by kernel_rfl))
 f285 := Tryz.func245.trans (congrArg some (by kernel_rfl))
 f286 := Tryz.func246.trans (congrArg some (by kernel_rfl))
 f317 := Tryz.func272.trans (congrArg some (by kernel_rfl))
 f318 := Tryz.func273.trans (congrArg some (by kernel_rfl))
 f319 := Tryz.func274.trans (congrArg some (by kernel_rfl))
 f320 := Tryz.func275.trans (congrArg some (by kernel_rfl))
 f337 := Tryz.func288.trans (congrArg some (by kernel_rfl))
 f338 := Tryz.func289.trans (congrArg some (by kernel_rfl))
 t0 := Tryz.underlying0
 a0 := Tryz.isAgg0
 z0 := Tryz.sizeOf0
 v0 := Tryz.zeroValue0
 t2 := Tryz.underlying2
 a2 := Tryz.isAgg2
 z2 := Tryz.sizeOf2
 v2 := Tryz.zeroValue2
 t3 := Tryz.underlying3
 a3 := Tryz.isAgg3
 z3 := Tryz.sizeOf3
 v3 := Tryz.zeroValue3
 t4 := Tryz.underlying4
 a4 := Tryz.isAgg4
 z4 := Tryz.sizeOf4
 v4 := Tryz.zeroValue4
 t5 := Tryz.underlying5
 a5 := Tryz.isAgg5
 z5 := Tryz.sizeOf5
 v5 := Tryz.zeroValue5
 t9 := Tryz.underlying9
 a9 := Tryz.isAgg9
 z9 := Tryz.sizeOf9
 v9 := Tryz.zeroValue9
 t20 := Tryz.underlying20
 a20 := Tryz.isAgg20
 z20 := Tryz.sizeOf20
 v20 := Tryz.zeroValue20
 t37 := Tryz.underlying172
 a37 := Tryz.isAgg172
 z37 := Tryz.sizeOf172
 v37 := Tryz.zeroValue172
 t46 := Tryz.underlying168
 a46 := Tryz.isAgg168
 z46 := Tryz.sizeOf168
 v46 := Tryz.zeroValue168
 t51 := Tryz.underlying214
 a51 := Tryz.isAgg214
 z51 := Tryz.sizeOf214
 v51 := Tryz.zeroValue214
 t53 := Tryz.underlying217
 a53 := Tryz.isAgg217
 z53 := Tryz.sizeOf217
 v53 := Tryz.zeroValue217
 t171 := Tryz.underlying263
 a171 := Tryz.isAgg263
 z171 := Tryz.sizeOf263
 v171 := Tryz.zeroValue263
 t173 := Tryz.underlying266
 a173 := Tryz.isAgg266
 z173 := Tryz.sizeOf266
 v173 := Tryz.zeroValue266
 t212 := Tryz.underlying289
 a212 := Tryz.isAgg289
 z212 := Tryz.sizeOf289
 v212 := Tryz.zeroValue289
 t213 := Tryz.underlying290
 a213 := Tryz.isAgg290
 z213 := Tryz.sizeOf290
 t232 := Tryz.underlying310
 a232 := Tryz.isAgg310
 z232 := Tryz.sizeOf310
 v232 := Tryz.zeroValue310
 t233 := Tryz.underlying311
 a233 := Tryz.isAgg311
 z233 := Tryz.sizeOf311
 v233 := Tryz.zeroValue311
 g17 := by kernel_rfl
 g18 := by kernel_rfl
 g19 := by kernel_rfl
 i0 := by kernel_rfl
 i2 := by kernel_rfl
 i3 := by kernel_rfl
 i4 := by kernel_rfl
 i5 := by kernel_rfl
 i9 := by kernel_rfl
 i20 := by kernel_rfl
 i37 := by kernel_rfl
 i46 := by kernel_rfl
 i51 := by kernel_rfl
 i53 := by kernel_rfl
 i171 := by kernel_rfl
 i173 := by kernel_rfl
 i212 := by kernel_rfl
 i232 := by kernel_rfl
 i233 := by kernel_rfl
 m17 := by kernel_rfl
 m18 := by kernel_rfl
 m19 := by kernel_rfl }
open Go.RowKit Go.Sort Go.Lib in
theorem Tryz.strconv_Itoa (n : Int) (h0 : -9223372036854775808 ≤ n) (h1 : n ≤ 9223372036854775807) (w : World) (htab : Lib.TabIs Tryz.prog w "internal/strconv.uint64pow10" .u64 Lib.pow10Tab) :
  Calls Tryz.prog 99 #[.int .i64 n] w fun e w' => e = .returned (.string ⟨(Lib.itoa n).toArray⟩) ∧ ∃ k os, w' = grow (w.drewN k) os := Any.strconv_Itoa Tryz.laysM171 n h0 h1 w htab
def Tryz.lays160_ren : Go.Shelf.Ren := ⟨fun | 160 => 195 | 232 => 227 | 231 => 226 | 227 => 228 | 234 => 230 | 233 => 229 | 236 => 232 | 235 => 231 | 228 => 255 | 271 => 258 | 151 => 257 | 197 => 256 | 120 => 280 | 152 => 279 | 260 => 278 | 137 => 290 | 119 => 291 | 224 => 253 | 225 => 252 | 217 => 251 | 266 => 276 | n => n, fun | 9 => 9 | 4 => 4 | 3 => 3 | 5 => 5 | 117 => 245 | 116 => 244 | 0 => 0 | 124 => 248 | 21 => 21 | 105 => 272 | 46 => 168 | 119 => 303 | 139 => 306 | 138 => 305 | n => n, fun | 3 => 6 | 4 => 7 | n => n⟩
theorem Tryz.lays160 : Go.Proofs.Lays.n160 Tryz.prog Tryz.lays160_ren := {
 mixed := by kernel_rfl
 f119 := Tryz.func291.trans (congrArg some (by kernel_rfl))
 f120 := Tryz.func280.trans (congrArg some (by kernel_rfl))
 f137 := Tryz.func290.trans (congrArg some (by kernel_rfl))
 f151 := Tryz.func257.trans (congrArg some (by kernel_rfl))
 f152 := Tryz.func279.trans (congrArg some (by kernel_rfl))
 f160 := Tryz.func195.trans (congrArg some (by kernel_rfl))
 f197 := Tryz.func256.trans (congrArg some (by kernel_rfl))
 f217 := Tryz.func251.trans (congrArg some (by kernel_rfl))
 f224 := Tryz.func253.trans (congrArg some (by kernel_rfl))
 f225 := Tryz.func252.trans (congrArg some (by kernel_rfl))
 f227 := Tryz.func228.trans (congrArg some (by kernel_rfl))
 f228 := Tryz.func255.trans (congrArg some (by kernel_rfl))
 f231 := Tryz.func226.trans (congrArg some (by kernel_rfl))
 f232 := Tryz.func227.trans (congrArg some (by kernel_rfl))
 f233 := Tryz.func229.trans (congrArg some (by kernel_rfl))
 f234 := Tryz.func230.trans (congrArg some (by kernel_rfl))
 f235 := Tryz.func231.trans (congrArg some (by kernel_rfl))
 f236 := Tryz.func232.trans (congrArg some (by kernel_rfl))
 f260 := Tryz.func278.trans (congrArg some (by kernel_rfl))
 f266 := Tryz.func276.trans (congrArg some (by kernel_rfl))
 f271 := Tryz.func258.trans (congrArg some (by kernel_rfl))
 t0 := Tryz.underlying0
 a0 := Tryz.isAgg0
 z0 := Tryz.sizeOf0
 v0 := Tryz.zeroValue0
 t3 := Tryz.underlying3
 a3 := Tryz.isAgg3
 z3 := Tryz.sizeOf3
 v3 := Tryz.zeroValue3
 t4 := Tryz.underlying4
 a4 := Tryz.isAgg4
 z4 := Tryz.sizeOf4
 v4 := Tryz.zeroValue4
 t5 := Tryz.underlying5
 a5 := Tryz.isAgg5
 z5 := Tryz.sizeOf5
 v5 := Tryz.zeroValue5
 t9 := Tryz.underlying9
 a9 := Tryz.isAgg9
 z9 := Tryz.sizeOf9
 v9 := Tryz.zeroValue9
 t21 := Tryz.underlying21
 a21 := Tryz.isAgg21
 z21 := Tryz.sizeOf21
 v21 := Tryz.zeroValue21
 t46 := Tryz.underlying168
 a46 := Tryz.isAgg168
 z46 := Tryz.sizeOf168
 v46 := Tryz.zeroValue168
 t105 := Tryz.underlying272
 a105 := Tryz.isAgg272
 z105 := Tryz.sizeOf272
 v105 := Tryz.zeroValue272
 t116 := Tryz.underlying244
 a116 := Tryz.isAgg244
 z116 := Tryz.sizeOf244
 t117 := Tryz.underlying245
 a117 := Tryz.isAgg245
 z117 := Tryz.sizeOf245
 v117 := Tryz.zeroValue245
 t119 := Tryz.underlying303
 a119 := Tryz.isAgg303
 z119 := Tryz.sizeOf303
 t124 := Tryz.underlying248
 a124 := Tryz.isAgg248
 z124 := Tryz.sizeOf248
 v124 := Tryz.zeroValue248
 t138 := Tryz.underlying305
 a138 := Tryz.isAgg305
 z138 := Tryz.sizeOf305
 v138 := Tryz.zeroValue305
 t139 := Tryz.underlying306
 a139 := Tryz.isAgg306
 z139 := Tryz.sizeOf306
 v139 := Tryz.zeroValue306
 g3 := by kernel_rfl
 g4 := by kernel_rfl }
def Tryz.lays172_ren : Go.Shelf.Ren := ⟨fun | 172 => 134 | 244 => 196 | 245 => 197 | 247 => 233 | 279 => 234 | 280 => 235 | 281 => 236 | 282 => 237 | 287 => 259 | 316 => 260 | 171 => 99 | 205 => 261 | 321 => 281 | 322 => 282 | 243 => 159 | 246 => 211 | 283 => 243 | 284 => 244 | 285 => 245 | 286 => 246 | 129 => 271 | 317 => 272 | 318 => 273 | 319 => 274 | 320 => 275 | 337 => 288 | 338 => 289 | n => n, fun | 9 => 9 | 3 => 3 | 75 => 158 | 76 => 159 | 4 => 4 | 5 => 5 | 167 => 249 | 37 => 172 | 0 => 0 | 85 => 250 | 2 => 2 | 168 => 252 | 53 => 217 | 175 => 275 | 46 => 168 | 210 => 278 | 127 => 220 | 145 => 296 | 143 => 294 | 21 => 21 | 171 => 263 | 173 => 266 | 212 => 289 | 51 => 214 | 20 => 20 | 213 => 290 | 232 => 310 | 233 => 311 | 80 => 177 | n => n, fun | 15 => 3 | 16 => 4 | 17 => 5 | 18 => 8 | 19 => 9 | n => n⟩
theorem Tryz.lays172 : Go.Proofs.Lays.n172 Tryz.prog Tryz.lays172_ren := {
 mixed := by kernel_rfl
 f129 := Tryz.func271.trans (congrArg some (by kernel_rfl))
 f171 := Tryz.func99.trans (congrArg some (by kernel_rfl))
 f172 := Tryz.func134.trans (congrArg some (by kernel_rfl))
 f205 := Tryz.func261.trans (congrArg some (by kernel_rfl))
 f243 := Tryz.func159.trans (congrArg some (by kernel_rfl))
 f244 := Tryz.func196.trans (congrArg some (by kernel_rfl))
 f245 := Tryz.func197.trans (congrArg some (by kernel_rfl))
 f246 := Tryz.func211.trans (congrArg some (by kernel_rfl))
 f247 := Tryz.func233.trans (congrArg some (by kernel_rfl))
 f279 := Tryz.func234.trans (congrArg some (by kernel_rfl))
 f280 := Tryz.func235.trans (congrArg some (by kernel_rfl))
 f281 := Tryz.func236.trans (congrArg some (by kernel_rfl))
 f282 := Tryz.func237.trans (congrArg some (by kernel_rfl))
 f283 := Tryz.func243.trans (congrArg some (by kernel_rfl))
 f284 := Tryz.func244.trans (congrArg some (by kernel_rfl))
 f285 := Tryz.func245.trans (congrArg some (by kernel_rfl))
 f286 := Tryz.func246.trans (congrArg some (by kernel_rfl))
 f287 := Tryz.func259.trans (congrArg some (by kernel_rfl))
 f316 := Tryz.func260.trans (congrArg some (by kernel_rfl))
 f317 := Tryz.func272.trans (congrArg some (by kernel_rfl))
 f318 := Tryz.func273.trans (congrArg some (by kernel_rfl))
 f319 := Tryz.func274.trans (congrArg some (by kernel_rfl))
 f320 := Tryz.func275.trans (congrArg some (by kernel_rfl))
 f321 := Tryz.func281.trans (congrArg some (by kernel_rfl))
 f322 := Tryz.func282.trans (congrArg some (by kernel_rfl))
 f337 := Tryz.func288.trans (congrArg some (by kernel_rfl))
 f338 := Tryz.func289.trans (congrArg some (by kernel_rfl))
 t0 := Tryz.underlying0
 a0 := Tryz.isAgg0
 z0 := Tryz.sizeOf0
 v0 := Tryz.zeroValue0
 t2 := Tryz.underlying2
 a2 := Tryz.isAgg2
 z2 := Tryz.sizeOf2
 v2 := Tryz.zeroValue2
 t3 := Tryz.underlying3
 a3 := Tryz.isAgg3
 z3 := Tryz.sizeOf3
 v3 := Tryz.zeroValue3
 t4 := Tryz.underlying4
 a4 := Tryz.isAgg4
 z4 := Tryz.sizeOf4
 v4 := Tryz.zeroValue4
 t5 := Tryz.underlying5
 a5 := Tryz.isAgg5
 z5 := Tryz.sizeOf5
 v5 := Tryz.zeroValue5
 t9 := Tryz.underlying9
 a9 := Tryz.isAgg9
 z9 := Tryz.sizeOf9
 v9 := Tryz.zeroValue9
 t20 := Tryz.underlying20
 a20 := Tryz.isAgg20
 z20 := Tryz.sizeOf20
 v20 := Tryz.zeroValue20
 t21 := Tryz.underlying21
 a21 := Tryz.isAgg21
 z21 := Tryz.sizeOf21
 v21 := Tryz.zeroValue21
 t37 := Tryz.underlying172
 a37 := Tryz.isAgg172
 z37 := Tryz.sizeOf172
 v37 := Tryz.zeroValue172
 t46 := Tryz.underlying168
 a46 := Tryz.isAgg168
 z46 := Tryz.sizeOf168
 v46 := Tryz.zeroValue168
 t51 := Tryz.underlying214
 a51 := Tryz.isAgg214
 z51 := Tryz.sizeOf214
 v51 := Tryz.zeroValue214
 t53 := Tryz.underlying217
 a53 := Tryz.isAgg217
 z53 := Tryz.sizeOf217
 v53 := Tryz.zeroValue217
 t75 := Tryz.underlying158
 a75 := Tryz.isAgg158
 z75 := Tryz.sizeOf158
 v75 := Tryz.zeroValue158
 t76 := Tryz.underlying159
 a76 := Tryz.isAgg159
 z76 := Tryz.sizeOf159
 v76 := Tryz.zeroValue159
 t85 := Tryz.underlying250
 a85 := Tryz.isAgg250
 z85 := Tryz.sizeOf250
 v85 := Tryz.zeroValue250
 t127 := Tryz.underlying220
 a127 := Tryz.isAgg220
 z127 := Tryz.sizeOf220
 v127 := Tryz.zeroValue220
 t143 := Tryz.underlying294
 a143 := Tryz.isAgg294
 z143 := Tryz.sizeOf294
 v143 := Tryz.zeroValue294
 t145 := Tryz.underlying296
 a145 := Tryz.isAgg296
 z145 := Tryz.sizeOf296
 v145 := Tryz.zeroValue296
 t167 := Tryz.underlying249
 a167 := Tryz.isAgg249
 z167 := Tryz.sizeOf249
 v167 := Tryz.zeroValue249
 t168 := Tryz.underlying252
 a168 := Tryz.isAgg252
 z168 := Tryz.sizeOf252
 v168 := Tryz.zeroValue252
 t171 := Tryz.underlying263
 a171 := Tryz.isAgg263
 z171 := Tryz.sizeOf263
 v171 := Tryz.zeroValue263
 t173 := Tryz.underlying266
 a173 := Tryz.isAgg266
 z173 := Tryz.sizeOf266
 v173 := Tryz.zeroValue266
 t175 := Tryz.underlying275
 a175 := Tryz.isAgg275
 z175 := Tryz.sizeOf275
 v175 := Tryz.zeroValue275
 t210 := Tryz.underlying278
 a210 := Tryz.isAgg278
 z210 := Tryz.sizeOf278
 v210 := Tryz.zeroValue278
 t212 := Tryz.underlying289
 a212 := Tryz.isAgg289
 z212 := Tryz.sizeOf289
 v212 := Tryz.zeroValue289
 t213 := Tryz.underlying290
 a213 := Tryz.isAgg290
 z213 := Tryz.sizeOf290
 t232 := Tryz.underlying310
 a232 := Tryz.isAgg310
 z232 := Tryz.sizeOf310
 v232 := Tryz.zeroValue310
 t233 := Tryz.underlying311
 a233 := Tryz.isAgg311
 z233 := Tryz.sizeOf311
 v233 := Tryz.zeroValue311
 g15 := by kernel_rfl
 g16 := by kernel_rfl
 g17 := by kernel_rfl
 g18 := by kernel_rfl
 g19 := by kernel_rfl }
open Go.RowKit in
theorem Tryz.strconv_Atoi (s : ByteArray) (n : Int) (hl : s.size ≤ 18) (h : Lib.atoi s.data.toList = some n) (w : World) :
  Calls Tryz.prog 134 #[.string s] w fun e w' => e = .returned (.tuple #[.int .i64 n, .nilIface]) ∧ ∃ t, w' = Lib.bytesWorld w 5 t := Any.strconv_Atoi Tryz.lays172 s n hl h w
def Tryz.lays206_ren : Go.Shelf.Ren := ⟨fun | 206 => 162 | n => n, fun | 9 => 9 | 4 => 4 | 3 => 3 | n => n, fun | n => n⟩
theorem Tryz.lays206 : Go.Proofs.Lays.n206 Tryz.prog Tryz.lays206_ren := {
 mixed := by kernel_rfl
 f206 := Tryz.func162.trans (congrArg some (by kernel_rfl))
 t3 := Tryz.underlying3
 a3 := Tryz.isAgg3
 z3 := Tryz.sizeOf3
 v3 := Tryz.zeroValue3
 t4 := Tryz.underlying4
 a4 := Tryz.isAgg4
 z4 := Tryz.sizeOf4
 v4 := Tryz.zeroValue4
 t9 := Tryz.underlying9
 a9 := Tryz.isAgg9
 z9 := Tryz.sizeOf9
 v9 := Tryz.zeroValue9 }
open Go.RowKit Go.Lib in
theorem Tryz.stringslite_HasPrefix (s p : ByteArray) (w : World) :
  Calls Tryz.prog 162 #[.string s, .string p] w fun e w' => e = .returned (.bool (Lib.hasPrefix s.data.toList p.data.toList)) ∧ w' = w := Any.stringslite_HasPrefix Tryz.lays206 s p w
end Go.Proofs

namespace Go.Te
open Go Go.Sx Go.Proofs Go.Ar Go.RowKit
set_option maxRecDepth 100000
set_option maxHeartbeats 4000000
theorem mixed : Tryz.prog.follows .mixedOrders = true := by kernel_rfl
abbrev T0 : Tb := Vw []
def f9 : AV → Bool
 | .v (.bool true) => true
 | _ => false
theorem KG (x : AV) (h : f9 x = true) : zB x (.b true) := by
 unfold f9 at h
 split at h
 ·assumption
 ·cases h
def RH : List AV → Option (List zn × AV)
 | [.str s, .str [c]] => some ([], .i (Lib.indexByte s c))
 | _ => none
theorem lI : zQ Tryz.prog [] 224 RH := by
 intro xs ps r h hp
 unfold RH at h
 split at h
 ·rename_i s c
  cases h
  refine ⟨enters_of Tryz.func224 (by kernel_rfl) rfl, fun w S vals hS hg hr => ?_⟩
  match vals, hr with
  | [v, v2], ⟨hv, hv2, _⟩ =>
  obtain rfl := Z4 hv
  obtain rfl := Z4 hv2
  refine (Tryz.stringslite_Index_one ⟨s.toArray⟩ c w).mono ?_
  rintro e w' ⟨rfl, rfl⟩
  exact ⟨⟨Below.refl _ _, Nat.le_refl _⟩, _, rfl, .v _⟩
 ·cases h
theorem zT.mono {P : Program} {G : List (Nat × Obj)} {f : FuncId} {xs : List AV} {r : AV} (h : zT P [] f xs r) : zT P G f xs r :=
 ⟨h.1, fun w S vals hS _ hr => h.2 w S vals hS (fun b o hbo => by cases hbo) hr⟩
theorem yX.mono {P : Program} {G : List (Nat × Obj)} {f : FuncId} {xs : List AV} {t : TypeId} {sz len : Nat} {els : Nat → Nat → AV} (h : yX P [] f xs t sz len els) : yX P G f xs t sz len els :=
 ⟨h.1, fun w S vals hS _ hr => h.2 w S vals hS (fun b o hbo => by cases hbo) hr⟩
theorem zQ.mono {P : Program} {G : List (Nat × Obj)} {f : FuncId} {t : List AV → Option (List zn × AV)} (h : zQ P [] f t) : zQ P G f t := fun xs ps r e hp => zT.mono (h xs ps r e hp)
theorem TG.mono {P : Program} {G : List (Nat × Obj)} {f : FuncId} {t : List AV → Option (List zn × TypeId × Nat × Nat × (Nat → Nat → AV))} (h : TG P [] f t) : TG P G f t := fun xs ps ty sz len els e hp => yX.mono (h xs ps ty sz len els e hp)
def Xj : Array Value := #[.string ⟨#[50]⟩, .string ⟨#[51]⟩, .string ⟨#[53]⟩, .string ⟨#[55]⟩, .string ⟨#[49, 49]⟩, .string ⟨#[49, 51]⟩, .string ⟨#[49, 55]⟩, .string ⟨#[49, 57]⟩, .string ⟨#[50, 51]⟩, .string ⟨#[50, 57]⟩, .string ⟨#[51, 49]⟩, .string ⟨#[51, 55]⟩, .string ⟨#[52, 49]⟩, .string ⟨#[52, 51]⟩, .string ⟨#[52, 55]⟩, .string ⟨#[53, 51]⟩, .string ⟨#[53, 57]⟩, .string ⟨#[54, 49]⟩, .string ⟨#[54, 55]⟩, .string ⟨#[55, 49]⟩, .string ⟨#[55, 51]⟩, .string ⟨#[55, 57]⟩, .string ⟨#[56, 51]⟩, .string ⟨#[56, 57]⟩, .string ⟨#[57, 55]⟩]
def zh (G : List (Nat × Obj)) : Prop :=
 (∃ g t fr, Tryz.prog.globalNamed "internal/strconv.uint64pow10" = some g ∧ (g, Obj.cells (Lib.pow10Tab.map fun z => Value.int .u64 z).toArray t fr) ∈ G) ∧
 ∃ t fr G', G = (1, Obj.cells Xj t fr) :: G'
def pY : List AV → Option (List zn × AV)
 | [.v (.int .i64 n)] => some ([.p (Y1 .i64 n)], .str (Lib.itoa n))
 | _ => none
theorem MA {G : List (Nat × Obj)} (hG : zh G) : zQ Tryz.prog G 99 pY := by
 intro xs ps r h hp
 unfold pY at h
 split at h
 ·rename_i n
  cases h
  have hn : Y1 .i64 n := hp _ List.mem_cons_self
  simp only [Y1] at hn
  refine ⟨enters_of Tryz.func99 (by kernel_rfl) rfl, fun w S vals hS hg hr => ?_⟩
  match vals, hr with
  | [v], ⟨hv, _⟩ =>
  obtain rfl := ZW hv
  obtain ⟨⟨g, t, fr, hname, hmem⟩, _⟩ := hG
  have htab : Lib.TabIs Tryz.prog w "internal/strconv.uint64pow10" .u64 Lib.pow10Tab := by
   unfold Lib.TabIs World.var?
   rw [hname]
   simp only [Option.bind_some, (hg _ _ hmem).2]
  refine (Tryz.strconv_Itoa n hn.1 hn.2 w htab).mono ?_
  rintro e w' ⟨rfl, k, os, rfl⟩
  exact ⟨⟨⟨rfl, rfl, rfl, by simp [Go.Sort.grow, World.drewN], fun b hb => by simp [Go.Sort.grow, World.drewN, Array.getElem?_append, hb]⟩, by simp [dn, Go.Sort.grow, World.drewN]⟩, _, rfl, .str _⟩
 ·cases h
noncomputable def Kk (G : List (Nat × Obj)) : Tb := (Vw G).plus 99 pY
theorem Yj {G : List (Nat × Obj)} (hG : zh G) : zZ Tryz.prog (Kk G) := zZ.plus zq (MA hG)
def Iu : List AV → Option (List zn × AV)
 | [.str s, .str p] => some ([], .b (Lib.hasPrefix s p))
 | _ => none
theorem F7 : zQ Tryz.prog [] 162 Iu := by
 intro xs ps r h hp
 unfold Iu at h
 split at h
 ·rename_i s p
  cases h
  refine ⟨enters_of Tryz.func162 (by kernel_rfl) rfl, fun w S vals hS hg hr => ?_⟩
  match vals, hr with
  | [v, v2], ⟨hv, hv2, _⟩ =>
  obtain rfl := Z4 hv
  obtain rfl := Z4 hv2
  refine (Tryz.stringslite_HasPrefix ⟨s.toArray⟩ ⟨p.toArray⟩ w).mono ?_
  rintro e w' ⟨rfl, rfl⟩
  exact ⟨⟨Below.refl _ _, Nat.le_refl _⟩, _, rfl, .v _⟩
 ·cases h
theorem Pn (s : zL) : Lib.hasPrefix s [45] = zG s := by
 unfold Lib.hasPrefix zG
 match s with
 | [] => rfl
 | c :: r => simp [List.isPrefixOf, Bool.beq_comm]
noncomputable def fe : Tb := (T0.plus 162 Iu).body Tryz.prog [(131, .auto), (189, .auto)]
theorem V8 : zZ Tryz.prog fe := zZ.body mixed (zZ.plus zq F7) _
def YF (g : zL → AV) : List AV → Option (List zn × AV)
 | [.str s, .str p] => some ([.b (p == [45])], g s)
 | _ => none
theorem PO {f : FuncId} {g : zL → AV} (hf : ∀ s : zL, zT Tryz.prog [] f [.str s, .str [45]] (g s)) : zQ Tryz.prog [] f (YF g) := by
 intro xs ps r h hp
 unfold YF at h
 split at h
 ·rename_i s p
  cases h
  have q : (p == [45]) = true := hp _ List.mem_cons_self
  obtain rfl := eq_of_beq q
  exact hf s
 ·cases h
theorem Q5 {s : zL} (h : zG s = true) : s.drop 1 = zu s ∧ 1 ≤ s.length := by
 refine ⟨by unfold zu; rw [h]; rfl, ?_⟩
 match s, h with
 | [], h => cases h
 | c :: r, _ => simp
theorem RU {s : zL} (h : zG s = false) : s = zu s := by unfold zu; rw [h]; rfl
theorem Lv (s : zL) :
 ZY [AV.str s, AV.str [(45 : UInt8)]] → zY (Lib.hasPrefix s [(45 : UInt8)]) (bF (DB.db (iZ ≤ (↑1 : Int) ∧ (↑1 : Int) ≤ (lZ s))) (List.drop 1 s = zu s)) (s = zu s) := by
 delta bF lZ iZ
 intro hb
 simp only [sS, dS, Pn]
 refine zv.2 ⟨fun c => ?_, fun c => RU c⟩
 obtain ⟨h1, h2⟩ := Q5 c
 exact ⟨⟨by omega, by omega⟩, h1⟩
theorem jO (s : zL) :
 ZY [AV.str s, AV.str [(45 : UInt8)]] → zY (!Lib.hasPrefix s [(45 : UInt8)]) (j2 ∧ (True ∧ s = zu s) ∧ false = zG s) (bF (DB.db (iZ ≤ (↑1 : Int) ∧ (↑1 : Int) ≤ (lZ s))) (j2 ∧ (True ∧ List.drop 1 s = zu s) ∧ true = zG s)) := by
 delta bF j2 lZ iZ
 intro hb
 simp only [sS, dS, Pn]
 refine zv.2 ⟨fun c => ?_, fun c => ?_⟩
 ·rw [Bool.not_eq_true'] at c
  exact ⟨rfl, RU c, c.symm⟩
 ·rw [Bool.not_eq_false'] at c
  obtain ⟨h1, h2⟩ := Q5 c
  exact ⟨⟨by omega, by omega⟩, rfl, h1, c.symm⟩
theorem KB (s : zL) :
 ZY [AV.str s, AV.str [(45 : UInt8)]] → Lib.hasPrefix s [(45 : UInt8)] = zG s := by
 intro hb
 simp only [sS, dS, Pn]
theorem Ui : zQ Tryz.prog [] 83 (YF fun s => .str (zu s)) :=
 PO fun s => zU mixed V8 (Eq.mp (by kernel_rfl) (Lv s) : T7 Tryz.prog fe 83 .auto [.str s, .str [45]] (.str (zu s)))
theorem pD : zQ Tryz.prog [] 129 (YF fun s => .tup 2 (zt [.str (zu s), .b (zG s)])) :=
 PO fun s => zU mixed V8 (Eq.mp (by kernel_rfl) (jO s) : T7 Tryz.prog fe 129 .auto [.str s, .str [45]] (.tup 2 (zt [.str (zu s), .b (zG s)])))
theorem Mv : zQ Tryz.prog [] 102 (YF fun s => .b (zG s)) :=
 PO fun s => zU mixed V8 (Eq.mp (by kernel_rfl) (KB s) : T7 Tryz.prog fe 102 .auto [.str s, .str [45]] (.b (zG s)))
def VP : zL := [48, 49, 50, 51, 52, 53, 54, 55, 56, 57]
theorem l8 (c : UInt8) : VP.contains c = Zs c := by
 have key : ∀ n : Fin 256, VP.contains (UInt8.ofNat n.val) = Zs (UInt8.ofNat n.val) := by decide +kernel
 have := key ⟨c.toNat, c.toNat_lt⟩
 simpa using this
theorem vY {p : UInt8 → Bool} : ∀ {l : zL}, l.dropWhile p = [] ↔ l.all p = true
 | [] => by simp
 | c :: r => by
  rw [List.dropWhile_cons, List.all_cons]
  cases h : p c with
  | true => simp only [if_true, Bool.true_and]; exact vY
  | false => simp
theorem Tj {p : UInt8 → Bool} : ∀ {l : zL} {c : UInt8} {r : zL}, l.dropWhile p = c :: r → p c = false
 | [], _, _, h => by cases h
 | x :: l, c, r, h => by
  rw [List.dropWhile_cons] at h
  cases hx : p x with
  | true => rw [hx, if_pos rfl] at h; exact Tj h
  | false => rw [hx] at h; simp only [Bool.false_eq_true, if_false, List.cons.injEq] at h; rw [← h.1]; exact hx
theorem NN (s : zL) : (Lib.trimS s VP == []) = s.all Zs := by
 have hp : (fun c => VP.contains c) = Zs := funext l8
 unfold Lib.trimS Lib.trimLeftS Lib.trimRightS
 rw [hp, Bool.eq_iff_iff, beq_iff_eq, vY, List.all_reverse]
 constructor
 ·intro h
  rw [← List.all_reverse, ← vY]
  cases hd : s.reverse.dropWhile Zs with
  | nil => rfl
  | cons c r =>
   rw [hd, List.all_cons, Tj hd] at h
   cases h
 ·intro h
  rw [vY.2 (by rw [List.all_reverse]; exact h)]
  rfl
def Q3 : List AV → Option (List zn × AV)
 | [.str s, .str c] => some ([.b (c == VP), .p (s.length ≤ 4294967280)], .str (Lib.trimS s VP))
 | _ => none
theorem Ie : zQ Tryz.prog [] 195 Q3 := by
 intro xs ps r h hp
 unfold Q3 at h
 split at h
 ·rename_i s c
  cases h
  have q : (c == VP) = true := hp _ List.mem_cons_self
  have hl : s.length ≤ 4294967280 := hp _ (List.mem_cons_of_mem _ List.mem_cons_self)
  obtain rfl := eq_of_beq q
  refine ⟨enters_of Tryz.func195 (by kernel_rfl) rfl, fun w S vals hS hg hr => ?_⟩
  match vals, hr with
  | [v, v2], ⟨hv, hv2, _⟩ =>
  obtain rfl := Z4 hv
  obtain rfl := Z4 hv2
  have hsz : (⟨s.toArray⟩ : ByteArray).size = s.length := rfl
  by_cases h0 : s.length = 0
  ·refine (Any.strings_Trim_empty Tryz.lays160 ⟨s.toArray⟩ ⟨VP.toArray⟩ w (.inl h0)).mono ?_
   rintro e w' ⟨rfl, rfl⟩
   have he : s = [] := List.eq_nil_of_length_eq_zero h0
   subst he
   exact ⟨⟨Below.refl _ _, Nat.le_refl _⟩, _, rfl, .str _⟩
  ·refine (Any.strings_Trim_set Tryz.lays160 (by intro w; kernel_rfl) (by kernel_rfl) ⟨s.toArray⟩ ⟨VP.toArray⟩ w (by decide) (by omega) (by omega) (by decide) (by
    intro j b hj
    have : b ∈ VP := List.mem_of_getElem? hj
    revert this
    exact (show ∀ x ∈ VP, x.toNat < 128 by decide) b)).mono ?_
   rintro e w' ⟨rfl, q, rfl⟩
   refine ⟨⟨⟨rfl, rfl, rfl, ?_, fun b hb => ?_⟩, Jm (Nat.le_add_right _ _)⟩, _, rfl, .str _⟩
   ·show w.heap.size ≤ ((w.heap.push _).push _).size
    rw [Array.size_push, Array.size_push]; omega
   ·show ((w.heap.push _).push _)[b]? = _
    rw [Array.getElem?_push, if_neg (by rw [Array.size_push]; omega), Array.getElem?_push, if_neg (by omega)]
 ·cases h
theorem qb {c : UInt8} (h : Zs c = true) : Lib.digitVal c = some (vZ c) := by
 have key : ∀ n : Fin 256, Zs (UInt8.ofNat n.val) = true → Lib.digitVal (UInt8.ofNat n.val) = some (vZ (UInt8.ofNat n.val)) := by decide +kernel
 have := key ⟨c.toNat, c.toNat_lt⟩
 simp only [UInt8.ofNat_toNat] at this
 exact this h
theorem Tw : ∀ {l : zL} (a : Nat), (∀ c ∈ l, Zs c = true) → Lib.decFrom a l = some (a * 10 ^ l.length + zm l)
 | [], a, _ => by simp [Lib.decFrom, zm]
 | c :: r, a, h => by
  unfold Lib.decFrom
  rw [qb (h c List.mem_cons_self)]
  simp only
  rw [Tw _ fun x hx => h x (List.mem_cons_of_mem _ hx), YI, List.length_cons, Nat.pow_succ, Nat.add_mul]
  congr 1
  rw [Nat.mul_assoc, Nat.mul_comm 10, Nat.add_assoc]
theorem Sr {l : zL} (h : z6 l = true) : Lib.decNat l = some (zm l) := by
 obtain ⟨h1, h2, _⟩ := Zx.1 h
 unfold Lib.decNat
 rw [show l.isEmpty = false by cases l with | nil => cases h1 | cons c r => rfl]
 simp only [Bool.false_eq_true, if_false]
 rw [Tw 0 h2, Nat.zero_mul, Nat.zero_add]
theorem MK {s : zL} (h : zC s = true) : Lib.atoi s = some (zV s) := by
 rcases yQ h with ⟨r, rfl, h1, _, h3⟩ | ⟨h1, h3⟩
 ·rw [h3]
  show (Lib.decNat r).map (fun (m : Nat) => -(m : Int)) = _
  rw [Sr h1]; rfl
 ·rw [h3]
  obtain ⟨h4, h5, _⟩ := Zx.1 h1
  match s, h4, h5, h1 with
  | c :: r, _, h5, h1 =>
   have hc := yR.1 (h5 c List.mem_cons_self)
   show (if c == 45 then _ else if c == 43 then _ else (Lib.decNat (c :: r)).map fun (m : Nat) => (m : Int)) = _
   rw [if_neg (by rw [beq_iff_eq]; intro e; subst e; exact absurd hc.1 (by decide)), if_neg (by rw [beq_iff_eq]; intro e; subst e; exact absurd hc.1 (by decide)), Sr h1]; rfl
def ry : List AV → Option (List zn × AV)
 | [.str s] => some ([.b (zC s), .p (s.length ≤ 18)], .tup 2 (zt [.i (zV s), .v .nilIface]))
 | _ => none
theorem PY : zQ Tryz.prog [] 134 ry := by
 intro xs ps r h hp
 unfold ry at h
 split at h
 ·rename_i s
  cases h
  have q : zC s = true := hp _ List.mem_cons_self
  have hl : s.length ≤ 18 := hp _ (List.mem_cons_of_mem _ List.mem_cons_self)
  refine ⟨enters_of Tryz.func134 (by kernel_rfl) rfl, fun w S vals hS hg hr => ?_⟩
  match vals, hr with
  | [v], ⟨hv, _⟩ =>
  obtain rfl := Z4 hv
  refine (Tryz.strconv_Atoi ⟨s.toArray⟩ (zV s) hl (MK q) w).mono ?_
  rintro e w' ⟨rfl, t, rfl⟩
  refine ⟨⟨⟨?_, ?_, ?_, by rw [Lib.bytesWorld_size]; omega, fun b hb => Lib.bytesWorld_at_old w 5 t b hb⟩, ?_⟩, _, rfl, ?_⟩
  ·rfl
  ·rfl
  ·rfl
  ·exact se w 1
  ·exact .tup _ rfl fun i hi => by
    match i, hi with
    | 0, _ => exact .v _
    | 1, _ => exact .v _
 ·cases h
end Go.Te

namespace Go.Te
open Go Go.Sx Go.Proofs Go.Ar Go.RowKit
set_option maxRecDepth 100000
set_option maxHeartbeats 4000000
theorem SG (a : zL) : zC a = !(zu a == [] || (zu a).getD 0 0 == 48 && !(a == [48]) || !(zu a).all Zs) ∧ wu a = (zu a).length := by
 match a with
 | [] => exact ⟨rfl, rfl⟩
 | c :: r =>
  by_cases hc : c = 45
  ·subst hc
   have h1 := Y8 (a := 45 :: r) (by simp) rfl
   have ho : zu (45 :: r) = r := rfl
   rw [ho, h1.2.1, h1.2.2.1]
   refine ⟨?_, by simp⟩
   show (z6 r && !(r == [48])) = _
   rw [show ((45 :: r : zL) == [48]) = false from rfl]
   unfold z6
   match r with
   | [] => rfl
   | [d] =>
    cases hd : Zs d <;> cases h48 : d == 48 <;> simp_all
   | d :: e :: t =>
    simp only [List.length_cons, List.getD_cons_zero, Bool.not_false, Bool.and_true]
    rw [(zA _ _).2 (by omega), (zA _ _).2 (by omega), show ((d :: e :: t : zL) == []) = false from rfl, show ((d :: e :: t : zL) == [48]) = false by simp]
    cases (d :: e :: t).all Zs <;> cases d == 48 <;> rfl
  ·have hm : zG (c :: r) = false := beq_eq_false_iff_ne.2 hc
   have ho : zu (c :: r) = c :: r := by unfold zu; rw [hm]; rfl
   obtain ⟨h1, h2, _⟩ := Yw (a := c :: r) fun h => hc h.2
   rw [ho, h1, h2]
   refine ⟨?_, rfl⟩
   unfold z6
   match r with
   | [] =>
    cases hd : Zs c <;> cases h48 : c == 48 <;> simp_all
    rfl
   | e :: t =>
    simp only [List.length_cons, List.getD_cons_zero]
    rw [(zA _ _).2 (by omega), (zA _ _).2 (by omega), show ((c :: e :: t : zL) == []) = false from rfl, show ((c :: e :: t : zL) == [48]) = false by simp]
    cases (c :: e :: t).all Zs <;> cases c == 48 <;> rfl
noncomputable def EY : Tb := (T0.plus 83 (YF fun s => .str (zu s))).plus 195 Q3
theorem NX : zZ Tryz.prog EY := zZ.plus (zZ.plus zq Ui) Ie
def VW : List AV → Option (List zn × AV)
 | [.str a] => some ([.p (a.length ≤ 4294967280)], .i (ZX a))
 | _ => none
theorem NW (a : List UInt8) (hl : a.length ≤ 4294967280) :
 let q2 := (zu a == bA #[]); let q1 := (!zS false q2 || zS false q2); let q4 := (cI (UInt8.toNat (gD (zu a) 0 (0 : UInt8)))); let q3 := (q4 == (48 : Int)); let q7 := (ByteArray.data (ByteArray.mk #[(48 : UInt8)])); let q6 := (bif zu a == bA #[] then true else bif q4 == (48 : Int) then !a == Array.toList q7 else false); let q5 := (!zS false q6 || zS false q6); ZY [AV.str a] → bF q1 (zY (!zS false q2 || DB.db (iZ ≤ iZ ∧ iZ < (lZ (zu a))))
 (bF q1 (bF q1 (bF (!(zS false q2 && zS true q3) || zS false q2 && zS true q3) (bF q1 (bF (!zS false q2 || (!q4 == (48 : Int) || zS false q2 && zS true q3)) (bF (!!zu a == bA #[] || zS false q2) (bF q5 (zY (!zS false q6 || bA #[(48 : UInt8), (49 : UInt8), (50 : UInt8), (51 : UInt8), (52 : UInt8), (53 : UInt8), (54 : UInt8), (55 : UInt8), (56 : UInt8), (57 : UInt8)] == VP) ((zS false q6 = true → lN (zu a) ≤ nM) ∧ bF q5 (bF ((!!bif
 zu a == bA #[] then true else bif q4 == (48 : Int) then !a == Array.toList q7 else false) || zS false q6) (zY (bif bif zu a == bA #[] then true else bif q4 == (48 : Int) then !a == Array.toList q7 else false then true else !Lib.trimS (zu a) VP == bA #[]) (kI ∧ (11 : Int) = ZX a) (zY (zH (300 : Int) (lZ (zu a))) (kI ∧ (4 : Int) = ZX a) (kI ∧ iZ = ZX a)))))
 False)))))))) False) := by
 delta bF bA nM cI kI lZ lN gD iZ
 dsimp only
 intro hb
 simp only [sS, dS]
 have h48 : ((((zu a).getD 0 0).toNat : Int) == 48) = ((zu a).getD 0 0 == 48) := YV ((zu a).getD 0 0) 48 (by decide)
 obtain ⟨hI, hL⟩ := SG a
 have hol := X6 a
 rw [show (([48, 49, 50, 51, 52, 53, 54, 55, 56, 57] : zL) == VP) = true from rfl, NN, h48]
 have e1 : (!(zu a == [])) = true → 0 < (zu a).length := fun h => by
  match hs : zu a, h with
  | c :: r, _ => simp
 refine ⟨fun h => ⟨Int.le_refl _, by have := e1 h; omega⟩, ?_⟩
 refine Wt (by cases zu a == [] <;> cases (zu a).getD 0 0 == 48 <;> rfl) ?_
 refine Wt (by cases zu a == [] <;> cases (zu a).getD 0 0 == 48 <;> cases a == [48] <;> rfl) ?_
 refine ⟨fun _ => by omega, zv.2 ⟨fun c => ?_, fun c => ?_⟩⟩
 ·rw [c] at hI
  exact (VL (by rw [hI]; decide)).symm
 ·rw [c] at hI
  rw [oU hI, hL]
  refine ⟨fun h => ?_, fun h => ?_⟩
  ·rw [(zA _ _).2 (by omega)]; rfl
  ·rw [show Nat.blt 300 (zu a).length = false from Bool.eq_false_iff.2 fun e => by have := (zA _ _).1 e; omega]; rfl
theorem me (a : List UInt8) (hl : a.length ≤ 4294967280) : zT Tryz.prog [] 133 [.str a] (.i (ZX a)) :=
 zU (T := EY) (an := .auto) mixed NX (Eq.mp (by kernel_rfl) (NW a hl))
theorem Qt : zQ Tryz.prog [] 133 VW := by
 intro xs ps r h hp
 unfold VW at h
 split at h
 ·skip
  rename_i a
  cases h
  obtain ⟨q0, -⟩ := Zo hp
  exact weaken (ys := [.str a]) ⟨zr _, trivial⟩ (me a q0)
 ·cases h
def Rr : List AV → Option (List zn × AV)
 | [.str a, .str b] => some ([.p (a.length ≤ 4294967280), .p (b.length ≤ 4294967280)], .i (zI a b))
 | _ => none
theorem N7 (a : List UInt8) (b : List UInt8) (hl : a.length ≤ 4294967280) (hm : b.length ≤ 4294967280) :
 ZY [AV.str a, AV.str b] → lN a ≤ nM ∧ zY (ZX a != iZ) (kI ∧ ZX a = zI a b) (lN b ≤ nM ∧ kI ∧ ZX b = zI a b) := by
 delta nM kI lN iZ
 intro hb
 simp only [sS, dS]
 exact ⟨hl, fun h => by unfold zI; rw [bne_iff_ne.2 h]; rfl, fun h => ⟨hm, by unfold zI; rw [h]; rfl⟩⟩
theorem jd (a : List UInt8) (b : List UInt8) (hl : a.length ≤ 4294967280) (hm : b.length ≤ 4294967280) : zT Tryz.prog [] 85 [.str a, .str b] (.i (zI a b)) :=
 zU (T := T0.plus 133 VW) (an := .auto) mixed (zZ.plus zq Qt) (Eq.mp (by kernel_rfl) (N7 a b hl hm))
theorem JP : zQ Tryz.prog [] 85 Rr := by
 intro xs ps r h hp
 unfold Rr at h
 split at h
 ·skip
  rename_i a b
  cases h
  obtain ⟨q0, q1, -⟩ := Zo hp
  exact weaken (ys := [.str a, .str b]) ⟨zr _, zr _, trivial⟩ (jd a b q0 q1)
 ·cases h
def tq : List AV → Option (List zn × AV)
 | [.str a, .str b, .v (.int .i64 m)] => some ([.p (zC a = true), .p (zC b = true), .p (m = 18)], .tup 3 (zt [.i (bif leB a.length 18 && leB b.length 18 then zV a else 0), .i (bif leB a.length 18 && leB b.length 18 then zV b else 0), .b (leB a.length 18 && leB b.length 18)]))
 | _ => none
theorem Oi (a : List UInt8) (b : List UInt8) (m : Int) (ha : zC a = true) (hb' : zC b = true) (hm : m = 18) :
 ZY [AV.str a, AV.str b, aI m] → bF (!zS false (zH m (lZ a)) || zS false (zH m (lZ a))) (bF (!zS false (zH m (lZ a)) || zS false (zH m (lZ a))) (bF (!zS false (zH m (lZ a)) || zS false (zH m (lZ a))) (bF (!!zH m (lZ a) || zS false (zH m (lZ a))) (zY (bif zH m (lZ a) then true else zH m (lZ b)) (3 = lN [AV.junk, AV.junk, AV.junk] ∧ ((True ∧
 kI ∧ iZ = bif leB (lZ a) (18 : Int) && leB (lZ b) (18 : Int) then zV a else iZ) ∧ kI ∧ iZ = bif leB (lZ a) (18 : Int) && leB (lZ b) (18 : Int) then zV b else iZ) ∧ false = (leB (lZ a) (18 : Int) && leB (lZ b) (18 : Int))) (bF (zC a) (lN a ≤ 18 ∧ bF (zC b) (lN b ≤ 18 ∧ 3 = lN [AV.junk, AV.junk, AV.junk] ∧ ((True ∧ kI ∧ zV a = bif leB (lZ a) (18 : Int)
 && leB (lZ b) (18 : Int) then zV a else iZ) ∧ kI ∧ zV b = bif leB (lZ a) (18 : Int) && leB (lZ b) (18 : Int) then zV b else iZ) ∧ (bif true then true else false) = (leB (lZ a) (18 : Int) && leB (lZ b) (18 : Int))))))))) := by
 delta bF kI lZ lN iZ aI
 intro hb
 simp only [sS, dS]
 subst hm
 have e : (zH 18 (a.length : Int) || zH 18 (b.length : Int)) = !(leB (a.length : Int) 18 && leB (b.length : Int) 18) := by
  rw [Bool.eq_iff_iff, Bool.or_eq_true, zR, zR, Bool.not_eq_true', Bool.and_eq_false_iff, Bool.eq_false_iff, Bool.eq_false_iff, Ne, Ne, ze, ze]
  omega
 rw [e]
 refine zv.2 ⟨fun c => ?_, fun c => ?_⟩
 ·rw [Bool.not_eq_true'] at c
  rw [c]
  exact ⟨rfl, ⟨rfl, rfl⟩, rfl⟩
 ·rw [Bool.not_eq_false'] at c
  have c' := c
  rw [Bool.and_eq_true, ze, ze] at c'
  rw [c, ha, hb', Y3, Y3]
  exact ⟨by omega, by omega, rfl, ⟨rfl, rfl⟩, rfl⟩
theorem mY (a : List UInt8) (b : List UInt8) (m : Int) (ha : zC a = true) (hb' : zC b = true) (hm : m = 18) : zT Tryz.prog [] 86 [.str a, .str b, .i m] (.tup 3 (zt [.i (bif leB a.length 18 && leB b.length 18 then zV a else 0), .i (bif leB a.length 18 && leB b.length 18 then zV b else 0), .b (leB a.length 18 && leB b.length 18)])) :=
 zU (T := T0.plus 134 ry) (an := .auto) mixed (zZ.plus zq PY) (Eq.mp (by kernel_rfl) (Oi a b m ha hb' hm))
theorem LL : zQ Tryz.prog [] 86 tq := by
 intro xs ps r h hp
 unfold tq at h
 split at h
 ·skip
  rename_i a b m
  cases h
  obtain ⟨q0, q1, q2, -⟩ := Zo hp
  exact weaken (ys := [.str a, .str b, .i m]) ⟨zr _, zr _, zr _, trivial⟩ (mY a b m q0 q1 q2)
 ·cases h
end Go.Te

namespace Go.Te
open Go Go.Sx Go.Proofs Go.Ar
set_option maxRecDepth 100000
set_option maxHeartbeats 4000000
theorem TS {a : zL} (h : zC a = true) : (zV a).natAbs < 10 ^ a.length := by
 by_cases hm : a.getD 0 0 = 45
 ·have h0 : 0 < a.length := by
   match a, h with
   | [], h => cases h
   | c :: r, _ => simp
  obtain ⟨_, hm1, _, hm4⟩ := Y8 h0 hm
  rw [hm4]
  rw [h] at hm1
  have hd : z6 (a.drop 1) = true := by
   cases hx : z6 (a.drop 1) with
   | true => rfl
   | false => rw [hx] at hm1; cases hm1
  have := Xh (l := a.drop 1) (List.all_eq_true.2 (Zx.1 hd).2.1)
  have h3 : 10 ^ (a.drop 1).length ≤ 10 ^ a.length := Nat.pow_le_pow_right (by omega) (by simp)
  omega
 ·obtain ⟨hp1, _, hp3⟩ := Yw (a := a) fun e => hm e.2
  rw [hp3]
  have := Xh (l := a) (List.all_eq_true.2 (Zx.1 (hp1.symm.trans h)).2.1)
  omega
theorem TM (x : Int) : (if -x > x then -x else x) = (x.natAbs : Int) := by split <;> omega
def Zc (a b : zL) : Nat := Nat.gcd (zV a).natAbs (zV b).natAbs
structure YT where
 x : Int
 y : Int
def SE : List AV → Option (List zn × AV)
 | [.v (.int .i64 x), .v (.int .i64 y)] => some ([], .i (Xk x y))
 | _ => none
theorem Kc (x : Int) (y : Int) :
 let q1 := (kI ∧ iZ = Xk x y); let q2 := (kI ∧ (-1 : Int) = Xk x y); let q3 := (kI ∧ iO = Xk x y); ZY [aI x, aI y] → zY (x != x) (zY (y != y) q1 q2) (zY (y != y) q3 (zY (zH x y) q2 (zY (zH y x) q3 q1))) := by
 delta kI iZ iO aI
 dsimp only
 intro hb
 simp only [sS, dS]
 unfold Xk
 refine ⟨fun h => absurd rfl h, fun _ => ⟨fun h => absurd rfl h, fun _ => ⟨fun h => ?_, fun h => ⟨fun h2 => ?_, fun h2 => ?_⟩⟩⟩⟩
 ·rw [(zR _ _).2 h]; rfl
 ·rw [show zH x y = false from Bool.eq_false_iff.2 fun e => by have := (zR _ _).1 e; omega, beq_eq_false_iff_ne.2 (by omega)]; rfl
 ·rw [show x = y by omega, show zH y y = false from Bool.eq_false_iff.2 fun e => by have := (zR _ _).1 e; omega, beq_self_eq_true]; rfl
theorem hZ (x : Int) (y : Int) : zT Tryz.prog [] 31 [.i x, .i y] (.i (Xk x y)) :=
 zU (T := T0.body Tryz.prog [(81, .auto)]) (an := .auto) mixed (zZ.body mixed zq _) (Eq.mp (by kernel_rfl) (Kc x y))
theorem MR : zQ Tryz.prog [] 31 SE := by
 intro xs ps r h hp
 unfold SE at h
 split at h
 ·skip
  rename_i x y
  cases h
  exact weaken (ys := [.i x, .i y]) ⟨zr _, zr _, trivial⟩ (hZ x y)
 ·cases h
theorem Sb {a b q r : Int} (h : r + b * q = a) (hr : (0 < b ∧ 0 ≤ r ∧ r < b) ∨ (b < 0 ∧ b < r ∧ r ≤ 0)) : Int.fdiv a b = q ∧ Int.fmod a b = r := by
 rcases hr with ⟨h0, h1, h2⟩ | ⟨h0, h1, h2⟩
 ·rw [Int.fdiv_eq_ediv_of_nonneg _ (by omega), Int.fmod_eq_emod_of_nonneg _ (by omega)]
  exact (Int.ediv_emod_unique h0).2 ⟨h, h1, h2⟩
 ·have h3 : (-a) / (-b) = q ∧ (-a) % (-b) = -r := (Int.ediv_emod_unique (by omega)).2 ⟨by rw [Int.neg_mul]; omega, by omega, by omega⟩
  rw [← Int.neg_fdiv_neg, Int.fdiv_eq_ediv_of_nonneg _ (by omega)]
  refine ⟨h3.1, ?_⟩
  have h4 := Int.neg_fmod_neg a b
  rw [Int.fmod_eq_emod_of_nonneg _ (by omega), h3.2] at h4
  omega
theorem Lb {a b : Int} (hb : b ≠ 0) :
  ((a.tmod b != 0 && !(zH (a.tmod b) 0 == zH b 0)) = true → Int.fdiv a b = a.tdiv b - 1 ∧ Int.fmod a b = a.tmod b + b) ∧
  ((a.tmod b != 0 && !(zH (a.tmod b) 0 == zH b 0)) = false → Int.fdiv a b = a.tdiv b ∧ Int.fmod a b = a.tmod b) ∧ (a.tmod b).natAbs < b.natAbs ∧ (a.tdiv b).natAbs ≤ a.natAbs := by
 have e := Int.mul_tdiv_add_tmod a b
 have m : (a.tmod b).natAbs < b.natAbs := by rw [Int.natAbs_tmod]; exact Nat.mod_lt _ (by omega)
 refine ⟨fun c => Sb ?_ ?_, fun c => Sb (by omega) ?_, m, Int.natAbs_tdiv_le_natAbs a b⟩
 ·rw [Int.mul_sub, Int.mul_one]; omega
 all_goals
  generalize a.tmod b = r at *
  rcases Int.lt_or_le b 0 with h1 | h1 <;> rcases Int.lt_or_le r 0 with h2 | h2
  ·rw [(zR _ _).2 h1, (zR _ _).2 h2] at c
   simp at c <;> omega
  ·rw [(zR _ _).2 h1, show zH r 0 = false from Bool.eq_false_iff.2 fun e => by have := (zR _ _).1 e; omega] at c
   simp at c <;> omega
  ·rw [(zR _ _).2 h2, show zH b 0 = false from Bool.eq_false_iff.2 fun e => by have := (zR _ _).1 e; omega] at c
   simp at c <;> omega
  ·rw [show zH b 0 = false from Bool.eq_false_iff.2 fun e => by have := (zR _ _).1 e; omega, show zH r 0 = false from Bool.eq_false_iff.2 fun e => by have := (zR _ _).1 e; omega] at c
   simp at c <;> omega
end Go.Te

namespace Go.Te
open Go Go.Sx Go.Proofs Go.Ar
set_option maxRecDepth 100000
set_option maxHeartbeats 4000000
def w7 (s : zL) : zL := s.takeWhile Zs
def Z5 (s : zL) : Bool := z6 (w7 s) && leB ((w7 s).length : Int) 8
def Zt (s : zL) : Int := bif Z5 s then (zm (w7 s) : Int) else 0
def ZZ (s : zL) : zL := bif Z5 s then s.drop (w7 s).length else []
theorem rA {a b : zL} (h : ∀ c ∈ a, Zs c = true) : w7 (a ++ b) = a ++ w7 b := by
 unfold w7
 exact List.takeWhile_append_of_pos h
theorem UJ {s : zL} {z : Nat} (h1 : z ≤ s.length) (h2 : ∀ i, i < z → Zs (s.getD i 0) = true) : ∀ c ∈ s.take z, Zs c = true := fun c hc => by
 obtain ⟨i, hi, e⟩ := tc hc
 rw [List.length_take] at hi
 rw [← e, getD_takeS (by omega)]
 exact h2 i (by omega)
theorem oM {s : zL} {z : Nat} (h1 : z ≤ s.length) (h2 : ∀ i, i < z → Zs (s.getD i 0) = true) (h3 : z = s.length ∨ Zs (s.getD z 0) = false) : w7 s = s.take z := by
 conv => lhs; rw [← List.take_append_drop z s]
 rw [rA (UJ h1 h2)]
 have : w7 (s.drop z) = [] := by
  by_cases hz : z = s.length
  ·rw [List.drop_of_length_le (by omega)]; rfl
  ·rw [Tu (by omega)]
   unfold w7
   rw [List.takeWhile_cons, h3.resolve_left hz]
   rfl
 rw [this, List.append_nil]
theorem ga {s : zL} {z : Nat} (h1 : z ≤ s.length) (h2 : ∀ i, i < z → Zs (s.getD i 0) = true) : z ≤ (w7 s).length := by
 have : w7 s = s.take z ++ w7 (s.drop z) := by
  conv => lhs; rw [← List.take_append_drop z s]
  exact rA (UJ h1 h2)
 rw [this, List.length_append, List.length_take]
 omega
theorem LV {s : zL} {z : Nat} (h1 : z ≤ s.length) (h2 : ∀ i, i < z → Zs (s.getD i 0) = true) (h3 : z = s.length ∨ 8 < z ∨ Zs (s.getD z 0) = false) :
  Z5 s = !((z : Int) == 0 || zH 8 (z : Int) || zH 1 (z : Int) && ((s.getD 0 0).toNat : Int) == 48) ∧ (Z5 s = true → w7 s = s.take z) := by
 by_cases h8 : 8 < z
 ·have hg := ga h1 h2
  have e : Z5 s = false := by
   unfold Z5
   rw [show leB ((w7 s).length : Int) 8 = false from Bool.eq_false_iff.2 fun e => by have := (ze _ _).1 e; omega, Bool.and_false]
  rw [e, (zR _ _).2 (show (8 : Int) < (z : Int) by omega)]
  exact ⟨by simp, fun h => by cases h⟩
 ·have ht := oM h1 h2 (h3.imp id fun h => h.resolve_left h8)
  refine ⟨?_, fun _ => ht⟩
  have e48 : (((s.getD 0 0).toNat : Int) == 48) = (s.getD 0 0 == 48) := YV (s.getD 0 0) 48 (by decide)
  unfold Z5
  have hl : (s.take z).length = z := by rw [List.length_take]; omega
  rw [ht, hl, e48, (ze _ _).2 (show (z : Int) ≤ 8 by omega), Bool.and_true, show zH 8 (z : Int) = false from Bool.eq_false_iff.2 fun e => by have := (zR _ _).1 e; omega]
  unfold z6
  rw [hl, List.all_eq_true.2 (UJ h1 h2), show zH 1 (z : Int) = Nat.blt 1 z from by rw [Bool.eq_iff_iff, zR, zA]; omega]
  by_cases h0 : z = 0
  ·subst h0; rfl
  ·rw [(zA _ _).2 (show 0 < z by omega), beq_eq_false_iff_ne.2 (show (z : Int) ≠ 0 by omega), getD_takeS (show 0 < z by omega)]
   cases Nat.blt 1 z <;> cases s.getD 0 0 == 48 <;> rfl
def ML (s : zL) : Z9 :=
 .two .auto (.two .auto (.two (.one (.loop Nat (fun σ z => [(0, σ.tm 0), (5, .i (zm (s.take z) : Int)), (6, .i (z : Int))]) (fun σ z => []) 0 (fun σ z => z ≤ s.length ∧ z ≤ 9 ∧ ∀ i, i < z → Zs (s.getD i 0) = true) (fun σ z => s.length - z) .auto)) .auto))
def Sd : List AV → Option (List zn × AV)
 | [.str s] => some ([.p (s.length ≤ 9223372036854775807)], .tup 3 (zt [.i (Zt s), .str (ZZ s), .b (Z5 s)]))
 | _ => none
theorem mA (s : List UInt8) (hl : s.length ≤ 9223372036854775807) :
 ZY [AV.str s] → (∃ (z : Nat), ((z ≤ lN s ∧ z ≤ 9 ∧ ∀ (i : Nat), i < z → Zs (gD s i (0 : UInt8)) = true) ∧ s = s ∧ (kI ∧ iZ = (cI (zm (List.take z s)))) ∧ kI ∧ iZ = (cI z)) ∧ True) ∧ ∀ (z : Nat), let q1 := (zH (cI z) (lZ s)); let q3 := (bif zH (cI z) (lZ s) then leB (cI z) (8 : Int) else false); let q2 := (!zS true q3 || zS true q3); let q4 := (iZ ≤ (cI z) ∧ (cI z) < (lZ s)); let q7 := (cI (UInt8.toNat (gD s (Int.toNat (↑z : Int))
 (0 : UInt8)))); let q6 := (bif bif zH (cI z) (lZ s) then leB (cI z) (8 : Int) else false then leB (48 : Int) q7 else false); let q5 := (!zS true q6 || zS true q6); let q8 := (q7 - (48 : Int)); let q10 := (bif (cI z) == iZ then true else zH (8 : Int) (cI z)); let q9 := (!zS false q10 || zS false q10); let q12 := (zS false q10 && zS true (zH iO (cI z))); let q11 := (!q12 || zS false q10 && zS true (zH iO (cI z))); (z ≤ lN s ∧ z ≤ 9 ∧ ∀ (i : Nat), i < z → Zs (gD s i (0 : UInt8)) = true) →
 bF (!zS true q1 || zS true q1) (bF (!zH (cI z) (lZ s) || zS true q1) (bF q2 (bF q2 (bF (!zS true q3 || DB.db q4) (bF q2 (bF ((!bif zH (cI z) (lZ s) then leB (cI z) (8 : Int) else false) || zS true q3) (bF q5 (bF q5 (bF (!zS true q6 || DB.db q4) (bF q5 (bF ((!bif bif zH (cI z) (lZ s) then leB (cI z) (8 : Int) else false then leB (48 : Int) q7 else false) || zS true q6) (zY (bif bif bif zH (cI z) (lZ s) then leB (cI z) (8 : Int)
 else false then leB (48 : Int) q7 else false then leB q7 (57 : Int) else false) (bF (dK ((10 : Int) * (cI (zm (List.take z s))))) (bF (DB.db q4) (bF (DB.db (Y1 IntKind.u8 q8)) (bF (dK q8) (bF (dK ((10 : Int) * (cI (zm (List.take z s))) + q8)) (bF (dK ((cI z) + iO)) (∃ (z' : Nat), (((z' ≤ lN s ∧ z' ≤ 9 ∧ ∀ (i : Nat), i < z' → Zs (gD s i (0 : UInt8)) = true) ∧ lN s - z' < lN s - z) ∧ s = s ∧ (kI ∧ (10 : Int) * (cI (zm (List.take z s))) +
 q8 = (cI (zm (List.take z' s)))) ∧ kI ∧ (cI z) + iO = (cI z')) ∧ True))))))) (bF (!zS false ((cI z) == iZ) || zS false ((cI z) == iZ)) (bF (!!(cI z) == iZ || zS false ((cI z) == iZ)) (bF q9 (bF q9 (bF q11 (bF (!q12 || DB.db (iZ ≤ iZ ∧ iZ < (lZ s))) (bF q11 (bF q9 (bF (!zS false q10 || (!zH iO (cI z) || zS false q10 && zS true (zH iO (cI z)))) (bF ((!!bif (cI z)
 == iZ then true else zH (8 : Int) (cI z)) || zS false q10) (zY (bif bif (cI z) == iZ then true else zH (8 : Int) (cI z) then true else bif zH iO (cI z) then (cI (UInt8.toNat (gD s 0 (0 : UInt8)))) == (48 : Int) else false) (3 = lN [AV.junk, AV.junk, AV.junk] ∧ ((True ∧ kI ∧ iZ = Zt s) ∧ bA #[] = ZZ s) ∧ false = Z5 s) (bF (DB.db (iZ ≤ (cI z) ∧ (cI z) ≤ (lZ s))) (3 = lN [AV.junk, AV.junk, AV.junk] ∧ ((True ∧
 kI ∧ (cI (zm (List.take z s))) = Zt s) ∧ List.drop (Int.toNat (cI z)) s = ZZ s) ∧ true = Z5 s))))))))))))))))))))))))) := by
 delta bF dK bA cI kI lZ lN gD iZ iO
 dsimp only
 intro hb
 simp only [sS, dS, Za, FA]
 have dg2 : ∀ c : UInt8, (leB 48 (c.toNat : Int) && leB (c.toNat : Int) 57) = Zs c := fun c => by rw [Bool.eq_iff_iff, Bool.and_eq_true, ze, ze, yR]; omega
 simp only [Bool.and_assoc, dg2]
 refine ⟨⟨0, ⟨Nat.zero_le _, Nat.zero_le _, fun i hi => absurd hi (Nat.not_lt_zero _)⟩, rfl, rfl⟩, fun z ⟨z1, z2, z3⟩ => ⟨fun h => ?_, fun h => ?_, zv.2 ⟨fun c => ?_, fun c => ⟨fun h => ?_, ?_⟩⟩⟩⟩
 ·rw [Bool.and_eq_true] at h; have := (zR _ _).1 h.1; omega
 ·rw [Bool.and_eq_true] at h; have := (zR _ _).1 h.1; omega
 ·rw [Bool.and_eq_true, Bool.and_eq_true] at c
  obtain ⟨c1, c2, c3⟩ := c
  have c1 : z < s.length := by have := (zR _ _).1 c1; omega
  have c2 : z ≤ 8 := by have := (ze _ _).1 c2; omega
  have hd := yR.1 c3
  have hst : (zm (s.take (z + 1)) : Int) = 10 * (zm (s.take z) : Int) + (((s.getD z 0).toNat : Int) - 48) := by
   rw [Xq (by omega), Y5]
   unfold vZ
   omega
  have b1 : zm (s.take z) < 10 ^ 9 := by
   have h1 := Xh (l := s.take z) (List.all_eq_true.2 (UJ z1 z3))
   exact Nat.lt_of_lt_of_le h1 (Nat.pow_le_pow_right (by omega) (by rw [List.length_take]; omega))
  rw [show 10 ^ 9 = 1000000000 from by decide] at b1
  refine ⟨⟨by omega, by omega⟩, ⟨by omega, by omega⟩, ⟨by omega, by omega⟩, ⟨by omega, by omega⟩, ⟨by omega, by omega⟩, ⟨by omega, by omega⟩, z + 1, ⟨⟨by omega, by omega, fun i hi => ?_⟩, by omega⟩, hst.symm, by omega⟩
  by_cases e : i = z
  ·rw [e]; exact c3
  ·exact z3 i (by omega)
 ·rw [Bool.and_eq_true, zR] at h; exact ⟨by omega, by omega⟩
 ·have h3 : z = s.length ∨ 8 < z ∨ Zs (s.getD z 0) = false := by
   by_cases q1 : z = s.length
   ·exact .inl q1
   by_cases q2 : 8 < z
   ·exact .inr (.inl q2)
   refine .inr (.inr ?_)
   have q3 : zH (z : Int) (s.length : Int) = true := (zR _ _).2 (by omega)
   have q4 : leB (z : Int) 8 = true := (ze _ _).2 (by omega)
   rw [q3, q4] at c
   simpa using c
  obtain ⟨k1, k2⟩ := LV z1 z3 h3
  refine Wt (by cases ((z : Int) == 0 || zH 8 (z : Int)) <;> cases zH 1 (z : Int) <;> rfl) ?_
  unfold Zt ZZ
  refine zv.2 ⟨fun c2 => ?_, fun c2 => ?_⟩
  ·rw [c2] at k1
   rw [k1]
   exact ⟨rfl, ⟨rfl, rfl⟩, rfl⟩
  ·rw [c2] at k1
   have ht := k2 k1
   rw [k1, ht, List.length_take, show min z s.length = z by omega]
   exact ⟨⟨by omega, by omega⟩, rfl, ⟨rfl, rfl⟩, rfl⟩
theorem Kj (s : List UInt8) (hl : s.length ≤ 9223372036854775807) : zT Tryz.prog [] 79 [.str s] (.tup 3 (zt [.i (Zt s), .str (ZZ s), .b (Z5 s)])) :=
 zU (T := T0) (an := ML s) mixed zq (Eq.mp (by kernel_rfl) (mA s hl))
theorem kH : zQ Tryz.prog [] 79 Sd := by
 intro xs ps r h hp
 unfold Sd at h
 split at h
 ·skip
  rename_i s
  cases h
  obtain ⟨q0, -⟩ := Zo hp
  exact weaken (ys := [.str s]) ⟨zr _, trivial⟩ (Kj s q0)
 ·cases h
def Wp (x y : Int) : Int := bif leB 0 x && leB 0 y then (Nat.gcd x.toNat y.toNat : Int) else 0
def jB (x y : Int) : Z9 :=
 .two .auto (.two (.one (.loop YT (fun σ z => [(0, .i z.x), (1, .i z.y)]) (fun σ z => []) 0 (fun σ z => 0 ≤ z.x ∧ 0 ≤ z.y ∧ z.x ≤ 9223372036854775807 ∧ z.y ≤ 9223372036854775807 ∧ Nat.gcd z.x.toNat z.y.toNat = Nat.gcd x.toNat y.toNat) (fun σ z => z.y.toNat) .auto)) .auto)
def Ry : List AV → Option (List zn × AV)
 | [.v (.int .i64 x), .v (.int .i64 y)] => some ([.p (0 ≤ x ∧ x ≤ 9223372036854775807), .p (0 ≤ y ∧ y ≤ 9223372036854775807)], .i (Wp x y))
 | _ => none
theorem jp (x : Int) (y : Int) (h1 : 0 ≤ x ∧ x ≤ 9223372036854775807) (h2 : 0 ≤ y ∧ y ≤ 9223372036854775807) :
 ZY [aI x, aI y] → (∃ (z : YT), ((iZ ≤ YT.x z ∧ iZ ≤ YT.y z ∧ YT.x z ≤ iX ∧ YT.y z ≤ iX ∧ Nat.gcd (Int.toNat (YT.x z)) (Int.toNat (YT.y z)) = Nat.gcd (Int.toNat x) (Int.toNat y)) ∧ (kI ∧ x = YT.x z) ∧ kI ∧ y = YT.y z) ∧ True) ∧ ∀ (z : YT), iZ ≤ YT.x z ∧ iZ ≤ YT.y z ∧ YT.x z ≤ iX ∧ YT.y z ≤ iX ∧ Nat.gcd (Int.toNat (YT.x z)) (Int.toNat (YT.y z)) = Nat.gcd (Int.toNat x) (Int.toNat y) →
 zY (YT.y z != iZ) (bF (DB.db (YT.y z ≠ iZ)) (∃ (z' : YT), (((iZ ≤ YT.x z' ∧ iZ ≤ YT.y z' ∧ YT.x z' ≤ iX ∧ YT.y z' ≤ iX ∧ Nat.gcd (Int.toNat (YT.x z')) (Int.toNat (YT.y z')) = Nat.gcd (Int.toNat x) (Int.toNat y)) ∧ Int.toNat (YT.y z') < Int.toNat (YT.y z)) ∧ (kI ∧ YT.y z = YT.x z') ∧ kI ∧ Int.tmod (YT.x z) (YT.y z) = YT.y z') ∧ True)) (kI ∧ YT.x z = Wp x y) := by
 delta bF kI iZ iX aI
 intro hb
 simp only [sS, dS]
 have hO : Wp x y = (Nat.gcd x.toNat y.toNat : Int) := by unfold Wp; rw [(ze _ _).2 h1.1, (ze _ _).2 h2.1]; rfl
 rw [hO]
 refine ⟨⟨⟨x, y⟩, ⟨h1.1, h2.1, h1.2, h2.2, rfl⟩, rfl, rfl⟩, fun z ⟨z1, z2, z3, z4, z5⟩ => ⟨fun hy => ?_, fun hy => ?_⟩⟩
 ·generalize z.x = zx at *
  generalize z.y = zy at *
  obtain ⟨X, rfl⟩ : ∃ X : Nat, zx = X := ⟨zx.toNat, by omega⟩
  obtain ⟨Y, rfl⟩ : ∃ Y : Nat, zy = Y := ⟨zy.toNat, by omega⟩
  have tm : (X : Int).tmod (Y : Int) = ((X % Y : Nat) : Int) := by rw [Int.tmod_eq_emod_of_nonneg (by omega)]; omega
  have hm : X % Y < Y := Nat.mod_lt _ (by omega)
  refine ⟨hy, ⟨Y, ((X % Y : Nat) : Int)⟩, ⟨⟨by simp only; omega, by simp only; omega, by simp only; omega, by simp only; omega, ?_⟩, by simp only; omega⟩, rfl, tm⟩
  simp only [Int.toNat_natCast] at z5 ⊢
  rw [← wx (by omega)]; exact z5
 ·rw [hy] at z5
  simp only [Int.toNat_zero, Nat.gcd_zero_right] at z5
  omega
theorem I5 (x : Int) (y : Int) (h1 : 0 ≤ x ∧ x ≤ 9223372036854775807) (h2 : 0 ≤ y ∧ y ≤ 9223372036854775807) : zT Tryz.prog [] 80 [.i x, .i y] (.i (Wp x y)) :=
 zU (T := T0) (an := jB x y) mixed zq (Eq.mp (by kernel_rfl) (jp x y h1 h2))
theorem Mx : zQ Tryz.prog [] 80 Ry := by
 intro xs ps r h hp
 unfold Ry at h
 split at h
 ·skip
  rename_i x y
  cases h
  obtain ⟨q0, q1, -⟩ := Zo hp
  exact weaken (ys := [.i x, .i y]) ⟨zr _, zr _, trivial⟩ (I5 x y q0 q1)
 ·cases h
end Go.Te
