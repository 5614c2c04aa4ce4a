/- Contracts of the library at this program, laid out of the kit's shelf by its own tools, reduced. -/
import Derived.Shelf.Small.Bits
import Derived.Shelf.Strconv.Atoi
import Derived.Shelf.Strconv.Itoa3
import Derived.Shelf.Strings.Search2
import Derived.Shelf.Strings.Prefix
import Derived.Shelf.LaysM
import Derived.Test.YtinnclmkhedgeaaGreatDoorProg
import Derived.Test.YtinnclmkhedgeaaGreatDoorArA
import Derived.Shelf.Strings.SlTrimAscii
import Derived.Test.YtinnclmkhedgeaaGreatDoorSxS
set_option linter.unusedSimpArgs false
set_option linter.unusedVariables false
namespace Go.Proofs
open Go.Shelf
def Tryz.lays219_ren : Go.Shelf.Ren := ⟨fun | 219 => 271 | 217 => 288 | 225 => 289 | 224 => 290 | 267 => 291 | 266 => 300 | 314 => 301 | n => n, fun | 9 => 9 | 3 => 3 | 4 => 4 | 5 => 5 | 46 => 152 | 146 => 276 | 51 => 208 | n => n, fun | 1 => 5 | n => n⟩
theorem Tryz.lays219 : Go.Proofs.Lays.n219 Tryz.prog Tryz.lays219_ren := {
 mixed := by kernel_rfl
 f217 := Tryz.func288.trans (congrArg some (by kernel_rfl))
 f219 := Tryz.func271.trans (congrArg some (by kernel_rfl))
 f224 := Tryz.func290.trans (congrArg some (by kernel_rfl))
 f225 := Tryz.func289.trans (congrArg some (by kernel_rfl))
 f266 := Tryz.func300.trans (congrArg some (by kernel_rfl))
 f267 := Tryz.func291.trans (congrArg some (by kernel_rfl))
 f314 := Tryz.func301.trans (congrArg some (by kernel_rfl))
 t3 := Tryz.underlying3
 a3 := Tryz.isAgg3
 z3 := Tryz.sizeOf3
 v3 := Tryz.zeroValue3
 t4 := Tryz.underlying4
 a4 := Tryz.isAgg4
 z4 := Tryz.sizeOf4
 v4 := Tryz.zeroValue4
 t5 := Tryz.underlying5
 a5 := Tryz.isAgg5
 z5 := Tryz.sizeOf5
 v5 := Tryz.zeroValue5
 t9 := Tryz.underlying9
 a9 := Tryz.isAgg9
 z9 := Tryz.sizeOf9
 v9 := Tryz.zeroValue9
 t46 := Tryz.underlying152
 a46 := Tryz.isAgg152
 z46 := Tryz.sizeOf152
 v46 := Tryz.zeroValue152
 t51 := Tryz.underlying208
 a51 := Tryz.isAgg208
 z51 := Tryz.sizeOf208
 v51 := Tryz.zeroValue208
 t146 := Tryz.underlying276
 a146 := Tryz.isAgg276
 z146 := Tryz.sizeOf276
 v146 := Tryz.zeroValue276
 g1 := by kernel_rfl }
open Go.RowKit Go.Lib in
theorem Tryz.stringslite_Index_one (s : ByteArray) (c : UInt8) (w : World) :
  Calls Tryz.prog 271 #[.string s, .string ⟨#[c]⟩] w fun e w' => e = .returned (.int .i64 (Lib.indexByte s.data.toList c)) ∧ w' = w := Any.stringslite_Index_one Tryz.lays219 s c w
def Tryz.laysM171_ren : Go.Shelf.Ren := ⟨fun | 171 => 78 | 243 => 130 | 246 => 180 | 283 => 231 | 284 => 232 | 285 => 233 | 286 => 234 | 129 => 196 | 317 => 272 | 318 => 273 | 319 => 274 | 320 => 275 | 337 => 292 | 338 => 293 | n => n, fun | 3 => 3 | 9 => 9 | 2 => 2 | 4 => 4 | 171 => 241 | 0 => 0 | 53 => 210 | 37 => 218 | 5 => 5 | 173 => 243 | 212 => 272 | 51 => 208 | 20 => 20 | 213 => 273 | 46 => 152 | 232 => 299 | 233 => 300 | n => n, fun | 17 => 2 | 18 => 6 | 19 => 7 | n => n⟩
theorem Tryz.laysM171 : Go.Proofs.LaysM.n171 Tryz.prog Tryz.laysM171_ren := {
 mixed := by kernel_rfl
 f129 := Tryz.func196.trans (congrArg some (by kernel_rfl))
 f171 := Tryz.func78.trans (congrArg some (by kernel_rfl))
 f243 := Tryz.func130.trans (congrArg some (by kernel_rfl))
 f246 := Tryz.func180.trans (congrArg some (by kernel_rfl))
 f283 := Tryz.func231.trans (congrArg some (by kernel_rfl))
 f284 := Tryz.func232.trans (congrArg some (by kernel_rfl))
 f285 := Tryz.func233.trans (congrArg some (by kernel_rfl))
 f286 := Tryz.func234.trans (congrArg some (by kernel_rfl))
 f317 := Tryz.func272.trans (congrArg some (by kernel_rfl))
 f318 := Tryz.func273.trans (congrArg some (by kernel_rfl))
 f319 := Tryz.func274.trans (congrArg some (by kernel_rfl))
 f320 := Tryz.func275.trans (congrArg some (by kernel_rfl))
 f337 := Tryz.func292.trans (congrArg some (by kernel_rfl))
 f338 := Tryz.func293.trans (congrArg some (by kernel_rfl))
 t0 := Tryz.underlying0
 a0 := Tryz.isAgg0
 z0 := Tryz.sizeOf0
 v0 := Tryz.zeroValue0
 t2 := Tryz.underlying2
 a2 := Tryz.isAgg2
 z2 := Tryz.sizeOf2
 v2 := Tryz.zeroValue2
 t3 := Tryz.underlying3
 a3 := Tryz.isAgg3
 z3 := Tryz.sizeOf3
 v3 := Tryz.zeroValue3
 t4 := Tryz.underlying4
 a4 := Tryz.isAgg4
 z4 := Tryz.sizeOf4
 v4 := Tryz.zeroValue4
 t5 := Tryz.underlying5
 a5 := Tryz.isAgg5
 z5 := Tryz.sizeOf5
 v5 := Tryz.zeroValue5
 t9 := Tryz.underlying9
 a9 := Tryz.isAgg9
 z9 := Tryz.sizeOf9
 v9 := Tryz.zeroValue9
 t20 := Tryz.underlying20
 a20 := Tryz.isAgg20
 z20 := Tryz.sizeOf20
 v20 := Tryz.zeroValue20
 t37 := Tryz.underlying218
 a37 := Tryz.isAgg218
 z37 := Tryz.sizeOf218
 v37 := Tryz.zeroValue218
 t46 := Tryz.underlying152
 a46 := Tryz.isAgg152
 z46 := Tryz.sizeOf152
 v46 := Tryz.zeroValue152
 t51 := Tryz.underlying208
 a51 := Tryz.isAgg208
 z51 := Tryz.sizeOf208
 v51 := Tryz.zeroValue208
 t53 := Tryz.underlying210
 a53 := Tryz.isAgg210
 z53 := Tryz.sizeOf210
 v53 := Tryz.zeroValue210
 t171 := Tryz.underlying241
 a171 := Tryz.isAgg241
 z171 := Tryz.sizeOf241
 v171 := Tryz.zeroValue241
 t173 := Tryz.underlying243
 a173 := Tryz.isAgg243
 z173 := Tryz.sizeOf243
 v173 := Tryz.zeroValue243
 t212 := Tryz.underlying272
 a212 := Tryz.isAgg272
 z212 := Tryz.sizeOf272
 v212 := Tryz.zeroValue272
 t213 := Tryz.underlying273
 a213 := Tryz.isAgg273
 z213 := Tryz.sizeOf273
 t232 := Tryz.underlying299
 a232 := Tryz.isAgg299
 z232 := Tryz.sizeOf299
 v232 := Tryz.zeroValue299
 t233 := Tryz.underlying300
 a233 := Tryz.isAgg300
 z233 := Tryz.sizeOf300
 v233 := Tryz.zeroValue300
 g17 := by kernel_rfl
 g18 := by kernel_rfl
 g19 := by kernel_rfl
 i0 := by kernel_rfl
 i2 := by kernel_rfl
 i3 := by kernel_rfl
 i4 := by kernel_rfl
 i5 := by kernel_rfl
 i9 := by kernel_rfl
 i20 := by kernel_rfl
 i37 := by kernel_rfl
 i46 := by kernel_rfl
 i51 := by kernel_rfl
 i53 := by kernel_rfl
 i171 := by kernel_rfl
 i173 := by kernel_rfl
 i212 := by kernel_rfl
 i232 := by kernel_rfl
 i233 := by kernel_rfl
 m17 := by kernel_rfl
 m18 := by kernel_rfl
 m19 := by kernel_rfl }
open Go.RowKit Go.Sort Go.Lib in
theorem Tryz.strconv_Itoa (n : Int) (h0 : -9223372036854775808 ≤ n) (h1 : n ≤ 9223372036854775807) (w : World) (htab : Lib.TabIs Tryz.prog w "internal/strconv.uint64pow10" .u64 Lib.pow10Tab) :
  Calls Tryz.prog 78 #[.int .i64 n] w fun e w' => e = .returned (.string ⟨(Lib.itoa n).toArray⟩) ∧ ∃ k os, w' = grow (w.drewN k) os := Any.strconv_Itoa Tryz.laysM171 n h0 h1 w htab
def Tryz.lays160_ren : Go.Shelf.Ren := ⟨fun | 160 => 201 | 232 => 248 | 231 => 247 | 227 => 249 | 234 => 251 | 233 => 250 | 236 => 253 | 235 => 252 | 228 => 280 | 271 => 283 | 151 => 282 | 197 => 281 | 120 => 297 | 152 => 296 | 260 => 295 | 137 => 302 | 119 => 303 | 224 => 290 | 225 => 289 | 217 => 288 | 266 => 300 | n => n, fun | 9 => 9 | 4 => 4 | 3 => 3 | 5 => 5 | 117 => 260 | 116 => 259 | 0 => 0 | 124 => 263 | 21 => 21 | 105 => 281 | 46 => 152 | 119 => 301 | 139 => 304 | 138 => 303 | n => n, fun | 3 => 8 | 4 => 9 | n => n⟩
theorem Tryz.lays160 : Go.Proofs.Lays.n160 Tryz.prog Tryz.lays160_ren := {
 mixed := by kernel_rfl
 f119 := Tryz.func303.trans (congrArg some (by kernel_rfl))
 f120 := Tryz.func297.trans (congrArg some (by kernel_rfl))
 f137 := Tryz.func302.trans (congrArg some (by kernel_rfl))
 f151 := Tryz.func282.trans (congrArg some (by kernel_rfl))
 f152 := Tryz.func296.trans (congrArg some (by kernel_rfl))
 f160 := Tryz.func201.trans (congrArg some (by kernel_rfl))
 f197 := Tryz.func281.trans (congrArg some (by kernel_rfl))
 f217 := Tryz.func288.trans (congrArg some (by kernel_rfl))
 f224 := Tryz.func290.trans (congrArg some (by kernel_rfl))
 f225 := Tryz.func289.trans (congrArg some (by kernel_rfl))
 f227 := Tryz.func249.trans (congrArg some (by kernel_rfl))
 f228 := Tryz.func280.trans (congrArg some (by kernel_rfl))
 f231 := Tryz.func247.trans (congrArg some (by kernel_rfl))
 f232 := Tryz.func248.trans (congrArg some (by kernel_rfl))
 f233 := Tryz.func250.trans (congrArg some (by kernel_rfl))
 f234 := Tryz.func251.trans (congrArg some (by kernel_rfl))
 f235 := Tryz.func252.trans (congrArg some (by kernel_rfl))
 f236 := Tryz.func253.trans (congrArg some (by kernel_rfl))
 f260 := Tryz.func295.trans (congrArg some (by kernel_rfl))
 f266 := Tryz.func300.trans (congrArg some (by kernel_rfl))
 f271 := Tryz.func283.trans (congrArg some (by kernel_rfl))
 t0 := Tryz.underlying0
 a0 := Tryz.isAgg0
 z0 := Tryz.sizeOf0
 v0 := Tryz.zeroValue0
 t3 := Tryz.underlying3
 a3 := Tryz.isAgg3
 z3 := Tryz.sizeOf3
 v3 := Tryz.zeroValue3
 t4 := Tryz.underlying4
 a4 := Tryz.isAgg4
 z4 := Tryz.sizeOf4
 v4 := Tryz.zeroValue4
 t5 := Tryz.underlying5
 a5 := Tryz.isAgg5
 z5 := Tryz.sizeOf5
 v5 := Tryz.zeroValue5
 t9 := Tryz.underlying9
 a9 := Tryz.isAgg9
 z9 := Tryz.sizeOf9
 v9 := Tryz.zeroValue9
 t21 := Tryz.underlying21
 a21 := Tryz.isAgg21
 z21 := Tryz.sizeOf21
 v21 := Tryz.zeroValue21
 t46 := Tryz.underlying152
 a46 := Tryz.isAgg152
 z46 := Tryz.sizeOf152
 v46 := Tryz.zeroValue152
 t105 := Tryz.underlying281
 a105 := Tryz.isAgg281
 z105 := Tryz.sizeOf281
 v105 := Tryz.zeroValue281
 t116 := Tryz.underlying259
 a116 := Tryz.isAgg259
 z116 := Tryz.sizeOf259
 t117 := Tryz.underlying260
 a117 := Tryz.isAgg260
 z117 := Tryz.sizeOf260
 v117 := Tryz.zeroValue260
 t119 := Tryz.underlying301
 a119 := Tryz.isAgg301
 z119 := Tryz.sizeOf301
 t124 := Tryz.underlying263
 a124 := Tryz.isAgg263
 z124 := Tryz.sizeOf263
 v124 := Tryz.zeroValue263
 t138 := Tryz.underlying303
 a138 := Tryz.isAgg303
 z138 := Tryz.sizeOf303
 v138 := Tryz.zeroValue303
 t139 := Tryz.underlying304
 a139 := Tryz.isAgg304
 z139 := Tryz.sizeOf304
 v139 := Tryz.zeroValue304
 g3 := by kernel_rfl
 g4 := by kernel_rfl }
def Tryz.lays172_ren : Go.Shelf.Ren := ⟨fun | 172 => 143 | 244 => 202 | 245 => 203 | 247 => 254 | 279 => 255 | 280 => 256 | 281 => 257 | 282 => 258 | 287 => 284 | 316 => 285 | 171 => 78 | 205 => 286 | 321 => 298 | 322 => 299 | 243 => 130 | 246 => 180 | 283 => 231 | 284 => 232 | 285 => 233 | 286 => 234 | 129 => 196 | 317 => 272 | 318 => 273 | 319 => 274 | 320 => 275 | 337 => 292 | 338 => 293 | n => n, fun | 9 => 9 | 3 => 3 | 75 => 160 | 76 => 161 | 4 => 4 | 5 => 5 | 167 => 264 | 37 => 218 | 0 => 0 | 85 => 265 | 2 => 2 | 168 => 267 | 53 => 210 | 175 => 284 | 46 => 152 | 210 => 287 | 127 => 270 | 145 => 297 | 143 => 295 | 21 => 21 | 171 => 241 | 173 => 243 | 212 => 272 | 51 => 208 | 20 => 20 | 213 => 273 | 232 => 299 | 233 => 300 | 80 => 223 | n => n, fun | 15 => 3 | 16 => 4 | 17 => 2 | 18 => 6 | 19 => 7 | n => n⟩
theorem Tryz.lays172 : Go.Proofs.Lays.n172 Tryz.prog Tryz.lays172_ren := {
 mixed := by kernel_rfl
 f129 := Tryz.func196.trans (congrArg some (by kernel_rfl))
 f171 := Tryz.func78.trans (congrArg some (by kernel_rfl))
 f172 := Tryz.func143.trans (congrArg some (by kernel_rfl))
 f205 := Tryz.func286.trans (congrArg some (by kernel_rfl))
 f243 := Tryz.func130.trans (congrArg some (by kernel_rfl))
 f244 := Tryz.func202.trans (congrArg some (by kernel_rfl))
 f245 := Tryz.func203.trans (congrArg some (by kernel_rfl))
 f246 := Tryz.func180.trans (congrArg some (by kernel_rfl))
 f247 := Tryz.func254.trans (congrArg some (by kernel_rfl))
 f279 := Tryz.func255.trans (congrArg some (by kernel_rfl))
 f280 := Tryz.func256.trans (congrArg some (by kernel_rfl))
 f281 := Tryz.func257.trans (congrArg some (by kernel_rfl))
 f282 := Tryz.func258.trans (congrArg some (by kernel_rfl))
 f283 := Tryz.func231.trans (congrArg some (by kernel_rfl))
 f284 := Tryz.func232.trans (congrArg some (by kernel_rfl))
 f285 := Tryz.func233.trans (congrArg some (by kernel_rfl))
 f286 := Tryz.func234.trans (congrArg some (by kernel_rfl))
 f287 := Tryz.func284.trans (congrArg some (by kernel_rfl))
 f316 := Tryz.func285.trans (congrArg some (by kernel_rfl))
 f317 := Tryz.func272.trans (congrArg some (by kernel_rfl))
 f318 := Tryz.func273.trans (congrArg some (by kernel_rfl))
 f319 := Tryz.func274.trans (congrArg some (by kernel_rfl))
 f320 := Tryz.func275.trans (congrArg some (by kernel_rfl))
 f321 := Tryz.func298.trans (congrArg some (by kernel_rfl))
 f322 := Tryz.func299.trans (congrArg some (by kernel_rfl))
 f337 := Tryz.func292.trans (congrArg some (by kernel_rfl))
 f338 := Tryz.func293.trans (congrArg some (by kernel_rfl))
 t0 := Tryz.underlying0
 a0 := Tryz.isAgg0
 z0 := Tryz.sizeOf0
 v0 := Tryz.zeroValue0
 t2 := Tryz.underlying2
 a2 := Tryz.isAgg2
 z2 := Tryz.sizeOf2
 v2 := Tryz.zeroValue2
 t3 := Tryz.underlying3
 a3 := Tryz.isAgg3
 z3 := Tryz.sizeOf3
 v3 := Tryz.zeroValue3
 t4 := Tryz.underlying4
 a4 := Tryz.isAgg4
 z4 := Tryz.sizeOf4
 v4 := Tryz.zeroValue4
 t5 := Tryz.underlying5
 a5 := Tryz.isAgg5
 z5 := Tryz.sizeOf5
 v5 := Tryz.zeroValue5
 t9 := Tryz.underlying9
 a9 := Tryz.isAgg9
 z9 := Tryz.sizeOf9
 v9 := Tryz.zeroValue9
 t20 := Tryz.underlying20
 a20 := Tryz.isAgg20
 z20 := Tryz.sizeOf20
 v20 := Tryz.zeroValue20
 t21 := Tryz.underlying21
 a21 := Tryz.isAgg21
 z21 := Tryz.sizeOf21
 v21 := Tryz.zeroValue21
 t37 := Tryz.underlying218
 a37 := Tryz.isAgg218
 z37 := Tryz.sizeOf218
 v37 := Tryz.zeroValue218
 t46 := Tryz.underlying152
 a46 := Tryz.isAgg152
 z46 := Tryz.sizeOf152
 v46 := Tryz.zeroValue152
 t51 := Tryz.underlying208
 a51 := Tryz.isAgg208
 z51 := Tryz.sizeOf208
 v51 := Tryz.zeroValue208
 t53 := Tryz.underlying210
 a53 := Tryz.isAgg210
 z53 := Tryz.sizeOf210
 v53 := Tryz.zeroValue210
 t75 := Tryz.underlying160
 a75 := Tryz.isAgg160
 z75 := Tryz.sizeOf160
 v75 := Tryz.zeroValue160
 t76 := Tryz.underlying161
 a76 := Tryz.isAgg161
 z76 := Tryz.sizeOf161
 v76 := Tryz.zeroValue161
 t85 := Tryz.underlying265
 a85 := Tryz.isAgg265
 z85 := Tryz.sizeOf265
 v85 := Tryz.zeroValue265
 t127 := Tryz.underlying270
 a127 := Tryz.isAgg270
 z127 := Tryz.sizeOf270
 v127 := Tryz.zeroValue270
 t143 := Tryz.underlying295
 a143 := Tryz.isAgg295
 z143 := Tryz.sizeOf295
 v143 := Tryz.zeroValue295
 t145 := Tryz.underlying297
 a145 := Tryz.isAgg297
 z145 := Tryz.sizeOf297
 v145 := Tryz.zeroValue297
 t167 := Tryz.underlying264
 a167 := Tryz.isAgg264
 z167 := Tryz.sizeOf264
 v167 := Tryz.zeroValue264
 t168 := Tryz.underlying267
 a168 := Tryz.isAgg267
 z168 := Tryz.sizeOf267
 v168 := Tryz.zeroValue267
 t171 := Tryz.underlying241
 a171 := Tryz.isAgg241
 z171 := Tryz.sizeOf241
 v171 := Tryz.zeroValue241
 t173 := Tryz.underlying243
 a173 := Tryz.isAgg243
 z173 := Tryz.sizeOf243
 v173 := Tryz.zeroValue243
 t175 := Tryz.underlying284
 a175 := Tryz.isAgg284
 z175 := Tryz.sizeOf284
 v175 := Tryz.zeroValue284
 t210 := Tryz.underlying287
 a210 := Tryz.isAgg287
 z210 := Tryz.sizeOf287
 v210 := Tryz.zeroValue287
 t212 := Tryz.underlying272
 a212 := Tryz.isAgg272
 z212 := Tryz.sizeOf272
 v212 := Tryz.zeroValue272
 t213 := Tryz.underlying273
 a213 := Tryz.isAgg273
 z213 := Tryz.sizeOf273
 t232 := Tryz.underlying299
 a232 := Tryz.isAgg299
 z232 := Tryz.sizeOf299
 v232 := Tryz.zeroValue299
 t233 := Tryz.underlying300
 a233 := Tryz.isAgg300
 z233 := Tryz.sizeOf300
 v233 := Tryz.zeroValue300
 g15 := by kernel_rfl
 g16 := by kernel_rfl
 g17 := by kernel_rfl
 g18 := by kernel_rfl
 g19 := by kernel_rfl }
open Go.RowKit in
theorem Tryz.strconv_Atoi (s : ByteArray) (n : Int) (hl : s.size ≤ 18) (h : Lib.atoi s.data.toList = some n) (w : World) :
  Calls Tryz.prog 143 #[.string s] w fun e w' => e = .returned (.tuple #[.int .i64 n, .nilIface]) ∧ ∃ t, w' = Lib.bytesWorld w 5 t := Any.strconv_Atoi Tryz.lays172 s n hl h w
def Tryz.lays206_ren : Go.Shelf.Ren := ⟨fun | 206 => 131 | n => n, fun | 9 => 9 | 4 => 4 | 3 => 3 | n => n, fun | n => n⟩
theorem Tryz.lays206 : Go.Proofs.Lays.n206 Tryz.prog Tryz.lays206_ren := {
 mixed := by kernel_rfl
 f206 := Tryz.func131.trans (congrArg some (by kernel_rfl))
 t3 := Tryz.underlying3
 a3 := Tryz.isAgg3
 z3 := Tryz.sizeOf3
 v3 := Tryz.zeroValue3
 t4 := Tryz.underlying4
 a4 := Tryz.isAgg4
 z4 := Tryz.sizeOf4
 v4 := Tryz.zeroValue4
 t9 := Tryz.underlying9
 a9 := Tryz.isAgg9
 z9 := Tryz.sizeOf9
 v9 := Tryz.zeroValue9 }
open Go.RowKit Go.Lib in
theorem Tryz.stringslite_HasPrefix (s p : ByteArray) (w : World) :
  Calls Tryz.prog 131 #[.string s, .string p] w fun e w' => e = .returned (.bool (Lib.hasPrefix s.data.toList p.data.toList)) ∧ w' = w := Any.stringslite_HasPrefix Tryz.lays206 s p w
def Tryz.lays125_ren : Go.Shelf.Ren := ⟨fun | 125 => 137 | 128 => 195 | 129 => 196 | n => n, fun | 46 => 152 | 3 => 3 | 51 => 208 | 53 => 210 | 4 => 4 | 5 => 5 | 9 => 9 | n => n, fun | n => n⟩
theorem Tryz.lays125 : Go.Proofs.Lays.n125 Tryz.prog Tryz.lays125_ren := {
 mixed := by kernel_rfl
 f125 := Tryz.func137.trans (congrArg some (by kernel_rfl))
 f128 := Tryz.func195.trans (congrArg some (by kernel_rfl))
 f129 := Tryz.func196.trans (congrArg some (by kernel_rfl))
 t3 := Tryz.underlying3
 a3 := Tryz.isAgg3
 z3 := Tryz.sizeOf3
 v3 := Tryz.zeroValue3
 t4 := Tryz.underlying4
 a4 := Tryz.isAgg4
 z4 := Tryz.sizeOf4
 v4 := Tryz.zeroValue4
 t5 := Tryz.underlying5
 a5 := Tryz.isAgg5
 z5 := Tryz.sizeOf5
 v5 := Tryz.zeroValue5
 t9 := Tryz.underlying9
 a9 := Tryz.isAgg9
 z9 := Tryz.sizeOf9
 v9 := Tryz.zeroValue9
 t46 := Tryz.underlying152
 a46 := Tryz.isAgg152
 z46 := Tryz.sizeOf152
 v46 := Tryz.zeroValue152
 t51 := Tryz.underlying208
 a51 := Tryz.isAgg208
 z51 := Tryz.sizeOf208
 v51 := Tryz.zeroValue208
 t53 := Tryz.underlying210
 a53 := Tryz.isAgg210
 z53 := Tryz.sizeOf210
 v53 := Tryz.zeroValue210 }
theorem Tryz.bits_Len (x : Int) (w : World) (h0 : 0 ≤ x) (h1 : x ≤ 18446744073709551615) :
  Calls Tryz.prog 137 #[.int .u64 x] w fun e w' => e = .returned (.int .i64 (Lib.bitLen x.toNat)) ∧ w' = w := Any.bits_Len Tryz.lays125 x w h0 h1
end Go.Proofs

namespace Go.Te
open Go Go.Sx Go.Proofs Go.Ar Go.RowKit
set_option maxRecDepth 100000
set_option maxHeartbeats 4000000
theorem mixed : Tryz.prog.follows .mixedOrders = true := by kernel_rfl
abbrev T0 : Tb := wB []
def uM : List AV → Option (List zO × AV)
 | [.str s, .str [c]] => some ([], .i (Lib.indexByte s c))
 | _ => none
theorem R4 : zP Tryz.prog [] 271 uM := by
 intro xs ps r h hp
 unfold uM at h
 split at h
 ·rename_i s c
  cases h
  refine ⟨enters_of Tryz.func271 (by kernel_rfl) rfl, fun w S vals hS hg hr => ?_⟩
  match vals, hr with
  | [v, v2], ⟨hv, hv2, _⟩ =>
  obtain rfl := ZS hv
  obtain rfl := ZS hv2
  refine (Tryz.stringslite_Index_one ⟨s.toArray⟩ c w).mono ?_
  rintro e w' ⟨rfl, rfl⟩
  exact ⟨⟨Below.refl _ _, Nat.le_refl _⟩, _, rfl, .v _⟩
 ·cases h
theorem zu.mono {P : Program} {G : List (Nat × Obj)} {f : FuncId} {xs : List AV} {r : AV} (h : zu P [] f xs r) : zu P G f xs r :=
 ⟨h.1, fun w S vals hS _ hr => h.2 w S vals hS (fun b o hbo => by cases hbo) hr⟩
theorem yW.mono {P : Program} {G : List (Nat × Obj)} {f : FuncId} {xs : List AV} {t : TypeId} {sz len : Nat} {els : Nat → Nat → AV} (h : yW P [] f xs t sz len els) : yW P G f xs t sz len els :=
 ⟨h.1, fun w S vals hS _ hr => h.2 w S vals hS (fun b o hbo => by cases hbo) hr⟩
theorem zP.mono {P : Program} {G : List (Nat × Obj)} {f : FuncId} {t : List AV → Option (List zO × AV)} (h : zP P [] f t) : zP P G f t := fun xs ps r e hp => zu.mono (h xs ps r e hp)
theorem TM.mono {P : Program} {G : List (Nat × Obj)} {f : FuncId} {t : List AV → Option (List zO × TypeId × Nat × Nat × (Nat → Nat → AV))} (h : TM P [] f t) : TM P G f t := fun xs ps ty sz len els e hp => yW.mono (h xs ps ty sz len els e hp)
def zr : Array Value := #[.string ⟨#[50]⟩, .string ⟨#[51]⟩, .string ⟨#[53]⟩, .string ⟨#[55]⟩, .string ⟨#[49, 49]⟩, .string ⟨#[49, 51]⟩, .string ⟨#[49, 55]⟩, .string ⟨#[49, 57]⟩, .string ⟨#[50, 51]⟩, .string ⟨#[50, 57]⟩, .string ⟨#[51, 49]⟩, .string ⟨#[51, 55]⟩, .string ⟨#[52, 49]⟩, .string ⟨#[52, 51]⟩, .string ⟨#[52, 55]⟩, .string ⟨#[53, 51]⟩, .string ⟨#[53, 57]⟩, .string ⟨#[54, 49]⟩, .string ⟨#[54, 55]⟩, .string ⟨#[55, 49]⟩, .string ⟨#[55, 51]⟩, .string ⟨#[55, 57]⟩, .string ⟨#[56, 51]⟩, .string ⟨#[56, 57]⟩, .string ⟨#[57, 55]⟩]
def zN (G : List (Nat × Obj)) : Prop :=
 (∃ g t fr, Tryz.prog.globalNamed "internal/strconv.uint64pow10" = some g ∧ (g, Obj.cells (Lib.pow10Tab.map fun z => Value.int .u64 z).toArray t fr) ∈ G) ∧
 ∃ t fr G', G = (1, Obj.cells zr t fr) :: G'
def tM : List AV → Option (List zO × AV)
 | [.v (.int .i64 n)] => some ([.p (yE .i64 n)], .str (Lib.itoa n))
 | _ => none
theorem Pu {G : List (Nat × Obj)} (hG : zN G) : zP Tryz.prog G 78 tM := by
 intro xs ps r h hp
 unfold tM at h
 split at h
 ·rename_i n
  cases h
  have hn : yE .i64 n := hp _ List.mem_cons_self
  simp only [yE] at hn
  refine ⟨enters_of Tryz.func78 (by kernel_rfl) rfl, fun w S vals hS hg hr => ?_⟩
  match vals, hr with
  | [v], ⟨hv, _⟩ =>
  obtain rfl := zD hv
  obtain ⟨⟨g, t, fr, hname, hmem⟩, _⟩ := hG
  have htab : Lib.TabIs Tryz.prog w "internal/strconv.uint64pow10" .u64 Lib.pow10Tab := by
   unfold Lib.TabIs World.var?
   rw [hname]
   simp only [Option.bind_some, (hg _ _ hmem).2]
  refine (Tryz.strconv_Itoa n hn.1 hn.2 w htab).mono ?_
  rintro e w' ⟨rfl, k, os, rfl⟩
  exact ⟨⟨⟨rfl, rfl, rfl, by simp [Go.Sort.grow, World.drewN], fun b hb => by simp [Go.Sort.grow, World.drewN, Array.getElem?_append, hb]⟩, by simp [dn, Go.Sort.grow, World.drewN]⟩, _, rfl, .str _⟩
 ·cases h
noncomputable def oG (G : List (Nat × Obj)) : Tb := (wB G).plus 78 tM
theorem xD {G : List (Nat × Obj)} (hG : zN G) : zz Tryz.prog (oG G) := zz.plus zq (Pu hG)
def pI : List AV → Option (List zO × AV)
 | [.str s, .str p] => some ([], .b (Lib.hasPrefix s p))
 | _ => none
theorem Oa : zP Tryz.prog [] 131 pI := by
 intro xs ps r h hp
 unfold pI at h
 split at h
 ·rename_i s p
  cases h
  refine ⟨enters_of Tryz.func131 (by kernel_rfl) rfl, fun w S vals hS hg hr => ?_⟩
  match vals, hr with
  | [v, v2], ⟨hv, hv2, _⟩ =>
  obtain rfl := ZS hv
  obtain rfl := ZS hv2
  refine (Tryz.stringslite_HasPrefix ⟨s.toArray⟩ ⟨p.toArray⟩ w).mono ?_
  rintro e w' ⟨rfl, rfl⟩
  exact ⟨⟨Below.refl _ _, Nat.le_refl _⟩, _, rfl, .v _⟩
 ·cases h
theorem tc (s : zK) : Lib.hasPrefix s [45] = zE s := by
 unfold Lib.hasPrefix zE
 match s with
 | [] => rfl
 | c :: r => simp [List.isPrefixOf, Bool.beq_comm]
noncomputable def Od : Tb := (T0.plus 131 pI).body Tryz.prog [(165, .auto), (204, .auto)]
theorem wN : zz Tryz.prog Od := zz.body mixed (zz.plus zq Oa) _
def YM (g : zK → AV) : List AV → Option (List zO × AV)
 | [.str s, .str p] => some ([.b (p == [45])], g s)
 | _ => none
theorem TR {f : FuncId} {g : zK → AV} (hf : ∀ s : zK, zu Tryz.prog [] f [.str s, .str [45]] (g s)) : zP Tryz.prog [] f (YM g) := by
 intro xs ps r h hp
 unfold YM at h
 split at h
 ·rename_i s p
  cases h
  have q : (p == [45]) = true := hp _ List.mem_cons_self
  obtain rfl := eq_of_beq q
  exact hf s
 ·cases h
theorem tp {s : zK} (h : zE s = true) : s.drop 1 = zt s ∧ 1 ≤ s.length := by
 refine ⟨by unfold zt; rw [h]; rfl, ?_⟩
 match s, h with
 | [], h => cases h
 | c :: r, _ => simp
theorem Tk {s : zK} (h : zE s = false) : s = zt s := by unfold zt; rw [h]; rfl
theorem R6 (s : zK) :
 zb [AV.str s, AV.str [(45 : UInt8)]] → zV (Lib.hasPrefix s [(45 : UInt8)]) (bF (DB.db (iZ ≤ (↑1 : Int) ∧ (↑1 : Int) ≤ (lZ s))) (List.drop 1 s = zt s)) (s = zt s) := by
 delta bF lZ iZ
 intro hb
 simp only [sS, dS, tc]
 refine zR.2 ⟨fun c => ?_, fun c => Tk c⟩
 obtain ⟨h1, h2⟩ := tp c
 exact ⟨⟨by omega, by omega⟩, h1⟩
theorem Q9 (s : zK) :
 zb [AV.str s, AV.str [(45 : UInt8)]] → zV (!Lib.hasPrefix s [(45 : UInt8)]) (j2 ∧ (True ∧ s = zt s) ∧ false = zE s) (bF (DB.db (iZ ≤ (↑1 : Int) ∧ (↑1 : Int) ≤ (lZ s))) (j2 ∧ (True ∧ List.drop 1 s = zt s) ∧ true = zE s)) := by
 delta bF j2 lZ iZ
 intro hb
 simp only [sS, dS, tc]
 refine zR.2 ⟨fun c => ?_, fun c => ?_⟩
 ·rw [Bool.not_eq_true'] at c
  exact ⟨rfl, Tk c, c.symm⟩
 ·rw [Bool.not_eq_false'] at c
  obtain ⟨h1, h2⟩ := tp c
  exact ⟨⟨by omega, by omega⟩, rfl, h1, c.symm⟩
theorem QB (s : zK) :
 zb [AV.str s, AV.str [(45 : UInt8)]] → Lib.hasPrefix s [(45 : UInt8)] = zE s := by
 intro hb
 simp only [sS, dS, tc]
theorem WW : zP Tryz.prog [] 114 (YM fun s => .str (zt s)) :=
 TR fun s => zW mixed wN (Eq.mp (by kernel_rfl) (R6 s) : vG Tryz.prog Od 114 .auto [.str s, .str [45]] (.str (zt s)))
theorem pG : zP Tryz.prog [] 144 (YM fun s => .tup 2 (zX [.str (zt s), .b (zE s)])) :=
 TR fun s => zW mixed wN (Eq.mp (by kernel_rfl) (Q9 s) : vG Tryz.prog Od 144 .auto [.str s, .str [45]] (.tup 2 (zX [.str (zt s), .b (zE s)])))
theorem ot : zP Tryz.prog [] 80 (YM fun s => .b (zE s)) :=
 TR fun s => zW mixed wN (Eq.mp (by kernel_rfl) (QB s) : vG Tryz.prog Od 80 .auto [.str s, .str [45]] (.b (zE s)))
def XG : zK := [48, 49, 50, 51, 52, 53, 54, 55, 56, 57]
theorem qV (c : UInt8) : XG.contains c = Zw c := by
 have key : ∀ n : Fin 256, XG.contains (UInt8.ofNat n.val) = Zw (UInt8.ofNat n.val) := by decide +kernel
 have := key ⟨c.toNat, c.toNat_lt⟩
 simpa using this
theorem xd {p : UInt8 → Bool} : ∀ {l : zK}, l.dropWhile p = [] ↔ l.all p = true
 | [] => by simp
 | c :: r => by
  rw [List.dropWhile_cons, List.all_cons]
  cases h : p c with
  | true => simp only [if_true, Bool.true_and]; exact xd
  | false => simp
theorem vn {p : UInt8 → Bool} : ∀ {l : zK} {c : UInt8} {r : zK}, l.dropWhile p = c :: r → p c = false
 | [], _, _, h => by cases h
 | x :: l, c, r, h => by
  rw [List.dropWhile_cons] at h
  cases hx : p x with
  | true => rw [hx, if_pos rfl] at h; exact vn h
  | false => rw [hx] at h; simp only [Bool.false_eq_true, if_false, List.cons.injEq] at h; rw [← h.1]; exact hx
theorem sB (s : zK) : (Lib.trimS s XG == []) = s.all Zw := by
 have hp : (fun c => XG.contains c) = Zw := funext qV
 unfold Lib.trimS Lib.trimLeftS Lib.trimRightS
 rw [hp, Bool.eq_iff_iff, beq_iff_eq, xd, List.all_reverse]
 constructor
 ·intro h
  rw [← List.all_reverse, ← xd]
  cases hd : s.reverse.dropWhile Zw with
  | nil => rfl
  | cons c r =>
   rw [hd, List.all_cons, vn hd] at h
   cases h
 ·intro h
  rw [xd.2 (by rw [List.all_reverse]; exact h)]
  rfl
def tj : List AV → Option (List zO × AV)
 | [.str s, .str c] => some ([.b (c == XG), .p (s.length ≤ 4294967280)], .str (Lib.trimS s XG))
 | _ => none
theorem pg : zP Tryz.prog [] 201 tj := by
 intro xs ps r h hp
 unfold tj at h
 split at h
 ·rename_i s c
  cases h
  have q : (c == XG) = true := hp _ List.mem_cons_self
  have hl : s.length ≤ 4294967280 := hp _ (List.mem_cons_of_mem _ List.mem_cons_self)
  obtain rfl := eq_of_beq q
  refine ⟨enters_of Tryz.func201 (by kernel_rfl) rfl, fun w S vals hS hg hr => ?_⟩
  match vals, hr with
  | [v, v2], ⟨hv, hv2, _⟩ =>
  obtain rfl := ZS hv
  obtain rfl := ZS hv2
  have hsz : (⟨s.toArray⟩ : ByteArray).size = s.length := rfl
  by_cases h0 : s.length = 0
  ·refine (Any.strings_Trim_empty Tryz.lays160 ⟨s.toArray⟩ ⟨XG.toArray⟩ w (.inl h0)).mono ?_
   rintro e w' ⟨rfl, rfl⟩
   have he : s = [] := List.eq_nil_of_length_eq_zero h0
   subst he
   exact ⟨⟨Below.refl _ _, Nat.le_refl _⟩, _, rfl, .str _⟩
  ·refine (Any.strings_Trim_set Tryz.lays160 (by intro w; kernel_rfl) (by kernel_rfl) ⟨s.toArray⟩ ⟨XG.toArray⟩ w (by decide) (by omega) (by omega) (by decide) (by
    intro j b hj
    have : b ∈ XG := List.mem_of_getElem? hj
    revert this
    exact (show ∀ x ∈ XG, x.toNat < 128 by decide) b)).mono ?_
   rintro e w' ⟨rfl, q, rfl⟩
   refine ⟨⟨⟨rfl, rfl, rfl, ?_, fun b hb => ?_⟩, oA (Nat.le_add_right _ _)⟩, _, rfl, .str _⟩
   ·show w.heap.size ≤ ((w.heap.push _).push _).size
    rw [Array.size_push, Array.size_push]; omega
   ·show ((w.heap.push _).push _)[b]? = _
    rw [Array.getElem?_push, if_neg (by rw [Array.size_push]; omega), Array.getElem?_push, if_neg (by omega)]
 ·cases h
theorem UK {c : UInt8} (h : Zw c = true) : Lib.digitVal c = some (Wn c) := by
 have key : ∀ n : Fin 256, Zw (UInt8.ofNat n.val) = true → Lib.digitVal (UInt8.ofNat n.val) = some (Wn (UInt8.ofNat n.val)) := by decide +kernel
 have := key ⟨c.toNat, c.toNat_lt⟩
 simp only [UInt8.ofNat_toNat] at this
 exact this h
theorem vR : ∀ {l : zK} (a : Nat), (∀ c ∈ l, Zw c = true) → Lib.decFrom a l = some (a * 10 ^ l.length + zH l)
 | [], a, _ => by simp [Lib.decFrom, zH]
 | c :: r, a, h => by
  unfold Lib.decFrom
  rw [UK (h c List.mem_cons_self)]
  simp only
  rw [vR _ fun x hx => h x (List.mem_cons_of_mem _ hx), wW, List.length_cons, Nat.pow_succ, Nat.add_mul]
  congr 1
  rw [Nat.mul_assoc, Nat.mul_comm 10, Nat.add_assoc]
theorem VM {l : zK} (h : Zq l = true) : Lib.decNat l = some (zH l) := by
 obtain ⟨h1, h2, _⟩ := ZQ.1 h
 unfold Lib.decNat
 rw [show l.isEmpty = false by cases l with | nil => cases h1 | cons c r => rfl]
 simp only [Bool.false_eq_true, if_false]
 rw [vR 0 h2, Nat.zero_mul, Nat.zero_add]
theorem Rq {s : zK} (h : ZV s = true) : Lib.atoi s = some (zS s) := by
 rcases ym h with ⟨r, rfl, h1, _, h3⟩ | ⟨h1, h3⟩
 ·rw [h3]
  show (Lib.decNat r).map (fun (m : Nat) => -(m : Int)) = _
  rw [VM h1]; rfl
 ·rw [h3]
  obtain ⟨h4, h5, _⟩ := ZQ.1 h1
  match s, h4, h5, h1 with
  | c :: r, _, h5, h1 =>
   have hc := yo.1 (h5 c List.mem_cons_self)
   show (if c == 45 then _ else if c == 43 then _ else (Lib.decNat (c :: r)).map fun (m : Nat) => (m : Int)) = _
   rw [if_neg (by rw [beq_iff_eq]; intro e; subst e; exact absurd hc.1 (by decide)), if_neg (by rw [beq_iff_eq]; intro e; subst e; exact absurd hc.1 (by decide)), VM h1]; rfl
def WS : List AV → Option (List zO × AV)
 | [.str s] => some ([.b (ZV s), .p (s.length ≤ 18)], .tup 2 (zX [.i (zS s), .v .nilIface]))
 | _ => none
theorem tP : zP Tryz.prog [] 143 WS := by
 intro xs ps r h hp
 unfold WS at h
 split at h
 ·rename_i s
  cases h
  have q : ZV s = true := hp _ List.mem_cons_self
  have hl : s.length ≤ 18 := hp _ (List.mem_cons_of_mem _ List.mem_cons_self)
  refine ⟨enters_of Tryz.func143 (by kernel_rfl) rfl, fun w S vals hS hg hr => ?_⟩
  match vals, hr with
  | [v], ⟨hv, _⟩ =>
  obtain rfl := ZS hv
  refine (Tryz.strconv_Atoi ⟨s.toArray⟩ (zS s) hl (Rq q) w).mono ?_
  rintro e w' ⟨rfl, t, rfl⟩
  refine ⟨⟨⟨?_, ?_, ?_, by rw [Lib.bytesWorld_size]; omega, fun b hb => Lib.bytesWorld_at_old w 5 t b hb⟩, ?_⟩, _, rfl, ?_⟩
  ·rfl
  ·rfl
  ·rfl
  ·exact rK w 1
  ·exact .tup _ rfl fun i hi => by
    match i, hi with
    | 0, _ => exact .v _
    | 1, _ => exact .v _
 ·cases h
end Go.Te

namespace Go.Te
open Go Go.Sx Go.Proofs Go.Ar Go.RowKit
set_option maxRecDepth 100000
set_option maxHeartbeats 4000000
theorem sO (a : zK) : ZV a = !(zt a == [] || (zt a).getD 0 0 == 48 && !(a == [48]) || !(zt a).all Zw) ∧ YH a = (zt a).length := by
 match a with
 | [] => exact ⟨rfl, rfl⟩
 | c :: r =>
  by_cases hc : c = 45
  ·subst hc
   have h1 := VR (a := 45 :: r) (by simp) rfl
   have ho : zt (45 :: r) = r := rfl
   rw [ho, h1.2.1, h1.2.2.1]
   refine ⟨?_, by simp⟩
   show (Zq r && !(r == [48])) = _
   rw [show ((45 :: r : zK) == [48]) = false from rfl]
   unfold Zq
   match r with
   | [] => rfl
   | [d] =>
    cases hd : Zw d <;> cases h48 : d == 48 <;> simp_all
   | d :: e :: t =>
    simp only [List.length_cons, List.getD_cons_zero, Bool.not_false, Bool.and_true]
    rw [(zF _ _).2 (by omega), (zF _ _).2 (by omega), show ((d :: e :: t : zK) == []) = false from rfl, show ((d :: e :: t : zK) == [48]) = false by simp]
    cases (d :: e :: t).all Zw <;> cases d == 48 <;> rfl
  ·have hm : zE (c :: r) = false := beq_eq_false_iff_ne.2 hc
   have ho : zt (c :: r) = c :: r := by unfold zt; rw [hm]; rfl
   obtain ⟨h1, h2, _⟩ := xH (a := c :: r) fun h => hc h.2
   rw [ho, h1, h2]
   refine ⟨?_, rfl⟩
   unfold Zq
   match r with
   | [] =>
    cases hd : Zw c <;> cases h48 : c == 48 <;> simp_all
    rfl
   | e :: t =>
    simp only [List.length_cons, List.getD_cons_zero]
    rw [(zF _ _).2 (by omega), (zF _ _).2 (by omega), show ((c :: e :: t : zK) == []) = false from rfl, show ((c :: e :: t : zK) == [48]) = false by simp]
    cases (c :: e :: t).all Zw <;> cases c == 48 <;> rfl
noncomputable def nV : Tb := (T0.plus 114 (YM fun s => .str (zt s))).plus 201 tj
theorem SR : zz Tryz.prog nV := zz.plus (zz.plus zq WW) pg
def WC : List AV → Option (List zO × AV)
 | [.str a] => some ([.p (a.length ≤ 4294967280)], .i (xW a))
 | _ => none
theorem Sf (a : List UInt8) (hl : a.length ≤ 4294967280) :
 let q2 := (zt a == bA #[]); let q1 := (!zQ false q2 || zQ false q2); let q4 := (cI (UInt8.toNat (gD (zt a) 0 (0 : UInt8)))); let q3 := (q4 == (48 : Int)); let q7 := (ByteArray.data (ByteArray.mk #[(48 : UInt8)])); let q6 := (bif zt a == bA #[] then true else bif q4 == (48 : Int) then !a == Array.toList q7 else false); let q5 := (!zQ false q6 || zQ false q6); zb [AV.str a] → bF q1 (zV (!zQ false q2 || DB.db (iZ ≤ iZ ∧ iZ < (lZ (zt a))))
 (bF q1 (bF q1 (bF (!(zQ false q2 && zQ true q3) || zQ false q2 && zQ true q3) (bF q1 (bF (!zQ false q2 || (!q4 == (48 : Int) || zQ false q2 && zQ true q3)) (bF (!!zt a == bA #[] || zQ false q2) (bF q5 (zV (!zQ false q6 || bA #[(48 : UInt8), (49 : UInt8), (50 : UInt8), (51 : UInt8), (52 : UInt8), (53 : UInt8), (54 : UInt8), (55 : UInt8), (56 : UInt8), (57 : UInt8)] == XG) ((zQ false q6 = true → lN (zt a) ≤ nM) ∧ bF q5 (bF ((!!bif
 zt a == bA #[] then true else bif q4 == (48 : Int) then !a == Array.toList q7 else false) || zQ false q6) (zV (bif bif zt a == bA #[] then true else bif q4 == (48 : Int) then !a == Array.toList q7 else false then true else !Lib.trimS (zt a) XG == bA #[]) (kI ∧ (11 : Int) = xW a) (zV (zA (300 : Int) (lZ (zt a))) (kI ∧ (4 : Int) = xW a) (kI ∧ iZ = xW a)))))
 False)))))))) False) := by
 delta bF bA nM cI kI lZ lN gD iZ
 dsimp only
 intro hb
 simp only [sS, dS]
 have h48 : ((((zt a).getD 0 0).toNat : Int) == 48) = ((zt a).getD 0 0 == 48) := XA ((zt a).getD 0 0) 48 (by decide)
 obtain ⟨hI, hL⟩ := sO a
 have hol := XH a
 rw [show (([48, 49, 50, 51, 52, 53, 54, 55, 56, 57] : zK) == XG) = true from rfl, sB, h48]
 have e1 : (!(zt a == [])) = true → 0 < (zt a).length := fun h => by
  match hs : zt a, h with
  | c :: r, _ => simp
 refine ⟨fun h => ⟨Int.le_refl _, by have := e1 h; omega⟩, ?_⟩
 refine vB (by cases zt a == [] <;> cases (zt a).getD 0 0 == 48 <;> rfl) ?_
 refine vB (by cases zt a == [] <;> cases (zt a).getD 0 0 == 48 <;> cases a == [48] <;> rfl) ?_
 refine ⟨fun _ => by omega, zR.2 ⟨fun c => ?_, fun c => ?_⟩⟩
 ·rw [c] at hI
  exact (rj (by rw [hI]; decide)).symm
 ·rw [c] at hI
  rw [QM hI, hL]
  refine ⟨fun h => ?_, fun h => ?_⟩
  ·rw [(zF _ _).2 (by omega)]; rfl
  ·rw [show Nat.blt 300 (zt a).length = false from Bool.eq_false_iff.2 fun e => by have := (zF _ _).1 e; omega]; rfl
theorem RF (a : List UInt8) (hl : a.length ≤ 4294967280) : zu Tryz.prog [] 142 [.str a] (.i (xW a)) :=
 zW (T := nV) (an := .auto) mixed SR (Eq.mp (by kernel_rfl) (Sf a hl))
theorem Ry : zP Tryz.prog [] 142 WC := by
 intro xs ps r h hp
 unfold WC at h
 split at h
 ·skip
  rename_i a
  cases h
  obtain ⟨q0, -⟩ := Zv hp
  exact weaken (ys := [.str a]) ⟨zw _, trivial⟩ (RF a q0)
 ·cases h
end Go.Te

namespace Go.Te
open Go Go.Sx Go.Proofs Go.Ar
set_option maxRecDepth 100000
set_option maxHeartbeats 4000000
def Zp (a : zK) : Prop := ZV a = true ∧ a.length ≤ 18
theorem oH {a : zK} (h : Zp a) : xW a = 0 := ZE.2 ⟨h.1, by have := (Wx a).1; have := h.2; omega⟩
theorem Ri {a : zK} (h : ZV a = true) : (zS a).natAbs < 10 ^ a.length := by
 by_cases hm : a.getD 0 0 = 45
 ·have h0 : 0 < a.length := by
   match a, h with
   | [], h => cases h
   | c :: r, _ => simp
  obtain ⟨_, hm1, _, hm4⟩ := VR h0 hm
  rw [hm4]
  rw [h] at hm1
  have hd : Zq (a.drop 1) = true := by
   cases hx : Zq (a.drop 1) with
   | true => rfl
   | false => rw [hx] at hm1; cases hm1
  have := wZ (l := a.drop 1) (List.all_eq_true.2 (ZQ.1 hd).2.1)
  have h3 : 10 ^ (a.drop 1).length ≤ 10 ^ a.length := Nat.pow_le_pow_right (by omega) (by simp)
  omega
 ·obtain ⟨hp1, _, hp3⟩ := xH (a := a) fun e => hm e.2
  rw [hp3]
  have := wZ (l := a) (List.all_eq_true.2 (ZQ.1 (hp1.symm.trans h)).2.1)
  omega
theorem Ss {a : zK} (h : Zp a) : (zS a).natAbs < 1000000000000000000 :=
 Nat.lt_of_lt_of_le (Ri h.1) (Nat.le_trans (Nat.pow_le_pow_right (by omega) h.2) (by decide))
def tH : List AV → Option (List zO × AV)
 | [.str a, .str b] => some ([.p (Zp a), .p (Zp b)], .i 0)
 | _ => none
theorem QP (a : List UInt8) (b : List UInt8) (ha : Zp a) (hc : Zp b) :
 zb [AV.str a, AV.str b] → lN a ≤ nM ∧ zV (xW a != iZ) (kI ∧ xW a = iZ) (lN b ≤ nM ∧ kI ∧ xW b = iZ) := by
 delta nM kI lN iZ
 intro hb
 simp only [sS, dS]
 have := ha.2
 have := hc.2
 exact ⟨by omega, fun _ => oH ha, fun _ => ⟨by omega, oH hc⟩⟩
theorem P0 (a : List UInt8) (b : List UInt8) (ha : Zp a) (hc : Zp b) : zu Tryz.prog [] 96 [.str a, .str b] (.i 0) :=
 zW (T := T0.plus 142 WC) (an := .auto) mixed (zz.plus zq Ry) (Eq.mp (by kernel_rfl) (QP a b ha hc))
theorem PU : zP Tryz.prog [] 96 tH := by
 intro xs ps r h hp
 unfold tH at h
 split at h
 ·skip
  rename_i a b
  cases h
  obtain ⟨q0, q1, -⟩ := Zv hp
  exact weaken (ys := [.str a, .str b]) ⟨zw _, zw _, trivial⟩ (P0 a b q0 q1)
 ·cases h
def Tt : List AV → Option (List zO × AV)
 | [.str a, .str b, .v (.int .i64 m)] => some ([.p (Zp a), .p (Zp b), .p (m = 18)], .tup 3 (zX [.i (zS a), .i (zS b), .b true]))
 | _ => none
theorem qe (a : List UInt8) (b : List UInt8) (m : Int) (ha : Zp a) (hc : Zp b) (hm : m = 18) :
 let q1 := (!zQ false (zA m (lZ a)) || zQ false (zA m (lZ a))); zb [AV.str a, AV.str b, aI m] → bF q1 (bF q1 (bF q1 (bF (!!zA m (lZ a) || zQ false (zA m (lZ a))) (zV (bif zA m (lZ a) then true else zA m (lZ b)) (3 = lN [AV.junk, AV.junk, AV.junk] ∧ ((True ∧ kI ∧ iZ = zS a) ∧ kI ∧ iZ = zS b) ∧ false = true) (bF (ZV a) (lN a ≤ 18 ∧ bF (ZV b) (lN b ≤ 18
 ∧ 3 = lN [AV.junk, AV.junk, AV.junk] ∧ ((True ∧ kI ∧ zS a = zS a) ∧ kI ∧ zS b = zS b) ∧ (bif true then true else false) = true))))))) := by
 delta bF kI lZ lN iZ aI
 dsimp only
 intro hb
 simp only [sS, dS]
 subst hm
 obtain ⟨h1, h2⟩ := ha
 obtain ⟨h3, h4⟩ := hc
 refine zR.2 ⟨fun c => ?_, fun c => ?_⟩
 ·rw [Bool.or_eq_true, zl, zl] at c
  omega
 ·rw [h1, h3]
  exact ⟨by omega, by omega, rfl⟩
theorem oX (a : List UInt8) (b : List UInt8) (m : Int) (ha : Zp a) (hc : Zp b) (hm : m = 18) : zu Tryz.prog [] 97 [.str a, .str b, .i m] (.tup 3 (zX [.i (zS a), .i (zS b), .b true])) :=
 zW (T := T0.plus 143 WS) (an := .auto) mixed (zz.plus zq tP) (Eq.mp (by kernel_rfl) (qe a b m ha hc hm))
theorem pF : zP Tryz.prog [] 97 Tt := by
 intro xs ps r h hp
 unfold Tt at h
 split at h
 ·skip
  rename_i a b m
  cases h
  obtain ⟨q0, q1, q2, -⟩ := Zv hp
  exact weaken (ys := [.str a, .str b, .i m]) ⟨zw _, zw _, zw _, trivial⟩ (oX a b m q0 q1 q2)
 ·cases h
noncomputable def O0 (G : List (Nat × Obj)) : Tb := ((oG G).plus 96 tH).plus 97 Tt
theorem VG {G : List (Nat × Obj)} (hG : zN G) : zz Tryz.prog (O0 G) := zz.plus (zz.plus (xD hG) (zP.mono PU)) (zP.mono pF)
theorem tN (x : Int) : (if -x > x then -x else x) = (x.natAbs : Int) := by split <;> omega
def XZ (a b : zK) : Nat := Nat.gcd (zS a).natAbs (zS b).natAbs
structure ZC where
 x : Int
 y : Int
def Q7 (a b : zK) : yw :=
 .two .auto (.two .auto (.two (.two .auto (.two .auto (.two (.two (.one (.loop ZC (fun σ z => [(7, .i z.x), (8, .i z.y)]) (fun σ z => []) 0 (fun σ z => Nat.gcd z.x.natAbs z.y.natAbs = XZ a b ∧ z.x.natAbs ≤ 1000000000000000000 ∧ z.y.natAbs ≤ 1000000000000000000) (fun σ z => z.y.natAbs) .auto)) .auto) .auto))) .auto))
def To : List AV → Option (List zO × AV)
 | [.str a, .str b] => some ([.p (Zp a), .p (Zp b)], .tup 2 (zX [.str (Lib.itoa (XZ a b : Int)), .i 0]))
 | _ => none
theorem QG (G : List (Nat × Obj)) (a : List UInt8) (b : List UInt8) (ha : Zp a) (hc : Zp b) :
 zb [AV.str a, AV.str b] → (ZV a = true ∧ lN a ≤ 18) ∧ (ZV b = true ∧ lN b ≤ 18) ∧ (ZV a = true ∧ lN a ≤ 18) ∧ (ZV b = true ∧ lN b ≤ 18) ∧ (18 : Int) = (18 : Int) ∧ (∃ (z : ZC), ((Nat.gcd (Int.natAbs (ZC.x z)) (Int.natAbs (ZC.y z)) = XZ a b ∧ Int.natAbs (ZC.x z) ≤ 1000000000000000000 ∧ Int.natAbs (ZC.y z) ≤ 1000000000000000000) ∧ (kI ∧ zS a = ZC.x z) ∧ kI ∧ zS b = ZC.y z) ∧ True) ∧ ∀ (z : ZC), Nat.gcd (Int.natAbs (ZC.x z)) (Int.natAbs (ZC.y z)) = XZ a b ∧ Int.natAbs (ZC.x z) ≤ 1000000000000000000 ∧
 Int.natAbs (ZC.y z) ≤ 1000000000000000000 → zV (ZC.y z != iZ) (bF (DB.db (ZC.y z ≠ iZ)) (∃ (z' : ZC), (((Nat.gcd (Int.natAbs (ZC.x z')) (Int.natAbs (ZC.y z')) = XZ a b ∧ Int.natAbs (ZC.x z') ≤ 1000000000000000000 ∧ Int.natAbs (ZC.y z') ≤ 1000000000000000000) ∧ Int.natAbs (ZC.y z') < Int.natAbs (ZC.y z)) ∧ (kI ∧ ZC.y z = ZC.x z') ∧ kI ∧ Int.tmod (ZC.x z) (ZC.y z) = ZC.y z') ∧ True)) (bF (dK (-ZC.x z)) (((iN ≤ if -ZC.x z > ZC.x z then -ZC.x z else ZC.x z) ∧ (if -ZC.x z >
 ZC.x z then -ZC.x z else ZC.x z) ≤ iX) ∧ j2 ∧ (True ∧ Lib.itoa (if -ZC.x z > ZC.x z then -ZC.x z else ZC.x z) = Lib.itoa (cI (XZ a b))) ∧ kI ∧ iZ = iZ)) := by
 delta bF dK cI kI j2 lN iZ iX iN
 intro hb
 simp only [sS, dS]
 have x1 := Ss ha
 have x2 := Ss hc
 refine ⟨ha, hc, ha, hc, ⟨⟨zS a, zS b⟩, ⟨rfl, by simp only; omega, by simp only; omega⟩, rfl, rfl⟩, fun z ⟨z1, z2, z3⟩ => ⟨fun hy => ⟨hy, ⟨z.y, z.x.tmod z.y⟩, ⟨⟨?_, z3, ?_⟩, ?_⟩, rfl, rfl⟩, fun hy => ?_⟩⟩
 ·rw [Int.natAbs_tmod, ← Uq (y := z.y.natAbs) (by omega), z1]
 ·rw [Int.natAbs_tmod]
  have : z.x.natAbs % z.y.natAbs ≤ z.x.natAbs := Nat.mod_le _ _
  omega
 ·rw [Int.natAbs_tmod]
  exact Nat.mod_lt _ (by omega)
 ·rw [hy, Int.natAbs_zero, Nat.gcd_zero_right] at z1
  rw [tN, z1]
  rw [z1] at z2
  exact ⟨⟨by omega, by omega⟩, ⟨by omega, by omega⟩, rfl, rfl⟩
theorem pB {G : List (Nat × Obj)} (hG : zN G) (a : List UInt8) (b : List UInt8) (ha : Zp a) (hc : Zp b) : zu Tryz.prog G 102 [.str a, .str b] (.tup 2 (zX [.str (Lib.itoa (XZ a b : Int)), .i 0])) :=
 zW (T := O0 G) (an := Q7 a b) mixed (VG hG) (Eq.mp (by kernel_rfl) (QG G a b ha hc))
theorem Pz {G : List (Nat × Obj)} (hG : zN G) : zP Tryz.prog G 102 To := by
 intro xs ps r h hp
 unfold To at h
 split at h
 ·skip
  rename_i a b
  cases h
  obtain ⟨q0, q1, -⟩ := Zv hp
  exact weaken (ys := [.str a, .str b]) ⟨zw _, zw _, trivial⟩ (pB hG a b q0 q1)
 ·cases h
def tC : List AV → Option (List zO × AV)
 | [.v (.int .i64 x), .v (.int .i64 y)] => some ([], .i (YK x y))
 | _ => none
theorem Qd (x : Int) (y : Int) :
 let q1 := (kI ∧ iZ = YK x y); let q2 := (kI ∧ (-1 : Int) = YK x y); let q3 := (kI ∧ iO = YK x y); zb [aI x, aI y] → zV (x != x) (zV (y != y) q1 q2) (zV (y != y) q3 (zV (zA x y) q2 (zV (zA y x) q3 q1))) := by
 delta kI iZ iO aI
 dsimp only
 intro hb
 simp only [sS, dS]
 unfold YK
 refine ⟨fun h => absurd rfl h, fun _ => ⟨fun h => absurd rfl h, fun _ => ⟨fun h => ?_, fun h => ⟨fun h2 => ?_, fun h2 => ?_⟩⟩⟩⟩
 ·rw [(zl _ _).2 h]; rfl
 ·rw [show zA x y = false from Bool.eq_false_iff.2 fun e => by have := (zl _ _).1 e; omega, beq_eq_false_iff_ne.2 (by omega)]; rfl
 ·rw [show x = y by omega, show zA y y = false from Bool.eq_false_iff.2 fun e => by have := (zl _ _).1 e; omega, beq_self_eq_true]; rfl
theorem Pd (x : Int) (y : Int) : zu Tryz.prog [] 66 [.i x, .i y] (.i (YK x y)) :=
 zW (T := T0.body Tryz.prog [(112, .auto)]) (an := .auto) mixed (zz.body mixed zq _) (Eq.mp (by kernel_rfl) (Qd x y))
theorem pi : zP Tryz.prog [] 66 tC := by
 intro xs ps r h hp
 unfold tC at h
 split at h
 ·skip
  rename_i x y
  cases h
  exact weaken (ys := [.i x, .i y]) ⟨zw _, zw _, trivial⟩ (Pd x y)
 ·cases h
theorem RP {a b q r : Int} (h : r + b * q = a) (hr : (0 < b ∧ 0 ≤ r ∧ r < b) ∨ (b < 0 ∧ b < r ∧ r ≤ 0)) : Int.fdiv a b = q ∧ Int.fmod a b = r := by
 rcases hr with ⟨h0, h1, h2⟩ | ⟨h0, h1, h2⟩
 ·rw [Int.fdiv_eq_ediv_of_nonneg _ (by omega), Int.fmod_eq_emod_of_nonneg _ (by omega)]
  exact (Int.ediv_emod_unique h0).2 ⟨h, h1, h2⟩
 ·have h3 : (-a) / (-b) = q ∧ (-a) % (-b) = -r := (Int.ediv_emod_unique (by omega)).2 ⟨by rw [Int.neg_mul]; omega, by omega, by omega⟩
  rw [← Int.neg_fdiv_neg, Int.fdiv_eq_ediv_of_nonneg _ (by omega)]
  refine ⟨h3.1, ?_⟩
  have h4 := Int.neg_fmod_neg a b
  rw [Int.fmod_eq_emod_of_nonneg _ (by omega), h3.2] at h4
  omega
theorem rO {a b : Int} (hb : b ≠ 0) :
  ((a.tmod b != 0 && !(zA (a.tmod b) 0 == zA b 0)) = true → Int.fdiv a b = a.tdiv b - 1 ∧ Int.fmod a b = a.tmod b + b) ∧
  ((a.tmod b != 0 && !(zA (a.tmod b) 0 == zA b 0)) = false → Int.fdiv a b = a.tdiv b ∧ Int.fmod a b = a.tmod b) ∧ (a.tmod b).natAbs < b.natAbs ∧ (a.tdiv b).natAbs ≤ a.natAbs := by
 have e := Int.mul_tdiv_add_tmod a b
 have m : (a.tmod b).natAbs < b.natAbs := by rw [Int.natAbs_tmod]; exact Nat.mod_lt _ (by omega)
 refine ⟨fun c => RP ?_ ?_, fun c => RP (by omega) ?_, m, Int.natAbs_tdiv_le_natAbs a b⟩
 ·rw [Int.mul_sub, Int.mul_one]; omega
 all_goals
  generalize a.tmod b = r at *
  rcases Int.lt_or_le b 0 with h1 | h1 <;> rcases Int.lt_or_le r 0 with h2 | h2
  ·rw [(zl _ _).2 h1, (zl _ _).2 h2] at c
   simp at c <;> omega
  ·rw [(zl _ _).2 h1, show zA r 0 = false from Bool.eq_false_iff.2 fun e => by have := (zl _ _).1 e; omega] at c
   simp at c <;> omega
  ·rw [(zl _ _).2 h2, show zA b 0 = false from Bool.eq_false_iff.2 fun e => by have := (zl _ _).1 e; omega] at c
   simp at c <;> omega
  ·rw [show zA b 0 = false from Bool.eq_false_iff.2 fun e => by have := (zl _ _).1 e; omega, show zA r 0 = false from Bool.eq_false_iff.2 fun e => by have := (zl _ _).1 e; omega] at c
   simp at c <;> omega
def t6 : List AV → Option (List zO × AV)
 | [.str a, .str b] => some ([.p (Zp a), .p (Zp b), .p (0 < zS b)], .tup 3 (zX [.str (Lib.itoa (zS a / zS b)), .str (Lib.itoa (zS a % zS b)), .i 0]))
 | _ => none
theorem qI (G : List (Nat × Obj)) (a : List UInt8) (b : List UInt8) (ha : Zp a) (hc : Zp b) (hd : 0 < zS b) :
 let q2 := (Int.tmod (zS a) (zS b) != iZ); let q1 := (!zQ true q2 || zQ true q2); let q3 := (Int.tdiv (zS a) (zS b) - iO); zb [AV.str a, AV.str b] → (ZV a = true ∧ lN a ≤ 18) ∧ (ZV b = true ∧ lN b ≤ 18) ∧ zV (b == bA #[(48 : UInt8)]) (3 = lN [AV.junk, AV.junk, AV.junk] ∧ ((True ∧ bA #[] = Lib.itoa (zS a / zS b)) ∧ bA #[] = Lib.itoa (zS a % zS b)) ∧ kI ∧ (12 : Int) = iZ) ((ZV a
 = true ∧ lN a ≤ 18) ∧ (ZV b = true ∧ lN b ≤ 18) ∧ (18 : Int) = (18 : Int) ∧ bF (DB.db (zS b ≠ iZ)) (bF (dK (Int.tdiv (zS a) (zS b))) (bF (DB.db (zS b ≠ iZ)) (bF q1 (bF q1 (bF q1 (bF q1 (bF (!Int.tmod (zS a) (zS b) != iZ || zQ true q2) (zV (bif Int.tmod (zS a) (zS b) != iZ then !zA (Int.tmod (zS a) (zS b)) iZ == zA (zS b) iZ else false) (bF (dK q3) (bF (dK (Int.tmod (zS a) (zS b) + zS b)) ((iN
 ≤ Int.tdiv (zS a) (zS b) - iO ∧ Int.tdiv (zS a) (zS b) - iO ≤ iX) ∧ (iN ≤ Int.tmod (zS a) (zS b) + zS b ∧ Int.tmod (zS a) (zS b) + zS b ≤ iX) ∧ 3 = lN [AV.junk, AV.junk, AV.junk] ∧ ((True ∧ Lib.itoa q3 = Lib.itoa (zS a / zS b)) ∧ Lib.itoa (Int.tmod (zS a) (zS b) + zS b) = Lib.itoa (zS a % zS b)) ∧ kI ∧ iZ = iZ))) ((iN ≤ Int.tdiv (zS a) (zS b) ∧ Int.tdiv (zS a) (zS b) ≤ (9223372036854775807
 : Int)) ∧ (iN ≤ Int.tmod (zS a) (zS b) ∧ Int.tmod (zS a) (zS b) ≤ iX) ∧ 3 = lN [AV.junk, AV.junk, AV.junk] ∧ ((True ∧ Lib.itoa (Int.tdiv (zS a) (zS b)) = Lib.itoa (zS a / zS b)) ∧ Lib.itoa (Int.tmod (zS a) (zS b)) = Lib.itoa (zS a % zS b)) ∧ kI ∧ iZ = iZ)))))))))) := by
 delta bF dK bA kI lN iZ iO iX iN
 dsimp only
 intro hb
 simp only [sS, dS]
 have x1 := Ss ha
 have x2 := Ss hc
 have h0 : (b == [48]) = false := beq_eq_false_iff_ne.2 fun e => by subst e; exact absurd hd (by decide)
 obtain ⟨f1, f2, f3, f4⟩ := rO (a := zS a) (b := zS b) (by omega)
 rw [Int.fdiv_eq_ediv_of_nonneg _ (by omega), Int.fmod_eq_emod_of_nonneg _ (by omega)] at f1 f2
 rw [h0, OT]
 refine ⟨ha, hc, ha, hc, by omega, ⟨by omega, by omega⟩, by omega, zR.2 ⟨fun c => ?_, fun c => ?_⟩⟩
 ·obtain ⟨g1, g2⟩ := f1 c
  rw [g1, g2]
  exact ⟨⟨by omega, by omega⟩, ⟨by omega, by omega⟩, ⟨by omega, by omega⟩, ⟨by omega, by omega⟩, rfl, rfl, rfl⟩
 ·obtain ⟨g1, g2⟩ := f2 c
  rw [g1, g2]
  exact ⟨⟨by omega, by omega⟩, ⟨by omega, by omega⟩, rfl, rfl, rfl⟩
theorem pk {G : List (Nat × Obj)} (hG : zN G) (a : List UInt8) (b : List UInt8) (ha : Zp a) (hc : Zp b) (hd : 0 < zS b) : zu Tryz.prog G 103 [.str a, .str b] (.tup 3 (zX [.str (Lib.itoa (zS a / zS b)), .str (Lib.itoa (zS a % zS b)), .i 0])) :=
 zW (T := O0 G) (an := .auto) mixed (VG hG) (Eq.mp (by kernel_rfl) (qI G a b ha hc hd))
theorem Px {G : List (Nat × Obj)} (hG : zN G) : zP Tryz.prog G 103 t6 := by
 intro xs ps r h hp
 unfold t6 at h
 split at h
 ·skip
  rename_i a b
  cases h
  obtain ⟨q0, q1, q2, -⟩ := Zv hp
  exact weaken (ys := [.str a, .str b]) ⟨zw _, zw _, trivial⟩ (pk hG a b q0 q1 q2)
 ·cases h
end Go.Te

namespace Go.Te
open Go Go.Sx Go.Proofs Go.Ar
set_option maxRecDepth 100000
set_option maxHeartbeats 4000000
def xx (s : zK) : zK := s.takeWhile Zw
def Zt (s : zK) : Bool := Zq (xx s) && leB ((xx s).length : Int) 8
def zf (s : zK) : Int := bif Zt s then (zH (xx s) : Int) else 0
def zJ (s : zK) : zK := bif Zt s then s.drop (xx s).length else []
theorem uP {a b : zK} (h : ∀ c ∈ a, Zw c = true) : xx (a ++ b) = a ++ xx b := by
 unfold xx
 exact List.takeWhile_append_of_pos h
theorem WZ {s : zK} {z : Nat} (h1 : z ≤ s.length) (h2 : ∀ i, i < z → Zw (s.getD i 0) = true) : ∀ c ∈ s.take z, Zw c = true := fun c hc => by
 obtain ⟨i, hi, e⟩ := WF hc
 rw [List.length_take] at hi
 rw [← e, getD_takeS (by omega)]
 exact h2 i (by omega)
theorem sj {s : zK} {z : Nat} (h1 : z ≤ s.length) (h2 : ∀ i, i < z → Zw (s.getD i 0) = true) (h3 : z = s.length ∨ Zw (s.getD z 0) = false) : xx s = s.take z := by
 conv => lhs; rw [← List.take_append_drop z s]
 rw [uP (WZ h1 h2)]
 have : xx (s.drop z) = [] := by
  by_cases hz : z = s.length
  ·rw [List.drop_of_length_le (by omega)]; rfl
  ·rw [vm (by omega)]
   unfold xx
   rw [List.takeWhile_cons, h3.resolve_left hz]
   rfl
 rw [this, List.append_nil]
theorem o8 {s : zK} {z : Nat} (h1 : z ≤ s.length) (h2 : ∀ i, i < z → Zw (s.getD i 0) = true) : z ≤ (xx s).length := by
 have : xx s = s.take z ++ xx (s.drop z) := by
  conv => lhs; rw [← List.take_append_drop z s]
  exact uP (WZ h1 h2)
 rw [this, List.length_append, List.length_take]
 omega
theorem rp {s : zK} {z : Nat} (h1 : z ≤ s.length) (h2 : ∀ i, i < z → Zw (s.getD i 0) = true) (h3 : z = s.length ∨ 8 < z ∨ Zw (s.getD z 0) = false) :
  Zt s = !((z : Int) == 0 || zA 8 (z : Int) || zA 1 (z : Int) && ((s.getD 0 0).toNat : Int) == 48) ∧ (Zt s = true → xx s = s.take z) := by
 by_cases h8 : 8 < z
 ·have hg := o8 h1 h2
  have e : Zt s = false := by
   unfold Zt
   rw [show leB ((xx s).length : Int) 8 = false from Bool.eq_false_iff.2 fun e => by have := (ZY _ _).1 e; omega, Bool.and_false]
  rw [e, (zl _ _).2 (show (8 : Int) < (z : Int) by omega)]
  exact ⟨by simp, fun h => by cases h⟩
 ·have ht := sj h1 h2 (h3.imp id fun h => h.resolve_left h8)
  refine ⟨?_, fun _ => ht⟩
  have e48 : (((s.getD 0 0).toNat : Int) == 48) = (s.getD 0 0 == 48) := XA (s.getD 0 0) 48 (by decide)
  unfold Zt
  have hl : (s.take z).length = z := by rw [List.length_take]; omega
  rw [ht, hl, e48, (ZY _ _).2 (show (z : Int) ≤ 8 by omega), Bool.and_true, show zA 8 (z : Int) = false from Bool.eq_false_iff.2 fun e => by have := (zl _ _).1 e; omega]
  unfold Zq
  rw [hl, List.all_eq_true.2 (WZ h1 h2), show zA 1 (z : Int) = Nat.blt 1 z from by rw [Bool.eq_iff_iff, zl, zF]; omega]
  by_cases h0 : z = 0
  ·subst h0; rfl
  ·rw [(zF _ _).2 (show 0 < z by omega), beq_eq_false_iff_ne.2 (show (z : Int) ≠ 0 by omega), getD_takeS (show 0 < z by omega)]
   cases Nat.blt 1 z <;> cases s.getD 0 0 == 48 <;> rfl
def Rj (s : zK) : yw :=
 .two .auto (.two .auto (.two (.one (.loop Nat (fun σ z => [(0, σ.tm 0), (5, .i (zH (s.take z) : Int)), (6, .i (z : Int))]) (fun σ z => []) 0 (fun σ z => z ≤ s.length ∧ z ≤ 9 ∧ ∀ i, i < z → Zw (s.getD i 0) = true) (fun σ z => s.length - z) .auto)) .auto))
def uz : List AV → Option (List zO × AV)
 | [.str s] => some ([.p (s.length ≤ 9223372036854775807)], .tup 3 (zX [.i (zf s), .str (zJ s), .b (Zt s)]))
 | _ => none
theorem qy (s : List UInt8) (hl : s.length ≤ 9223372036854775807) :
 zb [AV.str s] → (∃ (z : Nat), ((z ≤ lN s ∧ z ≤ 9 ∧ ∀ (i : Nat), i < z → Zw (gD s i (0 : UInt8)) = true) ∧ s = s ∧ (kI ∧ iZ = (cI (zH (List.take z s)))) ∧ kI ∧ iZ = (cI z)) ∧ True) ∧ ∀ (z : Nat), let q1 := (zA (cI z) (lZ s)); let q3 := (bif zA (cI z) (lZ s) then leB (cI z) (8 : Int) else false); let q2 := (!zQ true q3 || zQ true q3); let q4 := (iZ ≤ (cI z) ∧ (cI z) < (lZ s)); let q7 := (cI (UInt8.toNat (gD s (Int.toNat (↑z : Int))
 (0 : UInt8)))); let q6 := (bif bif zA (cI z) (lZ s) then leB (cI z) (8 : Int) else false then leB (48 : Int) q7 else false); let q5 := (!zQ true q6 || zQ true q6); let q8 := (q7 - (48 : Int)); let q10 := (bif (cI z) == iZ then true else zA (8 : Int) (cI z)); let q9 := (!zQ false q10 || zQ false q10); let q12 := (zQ false q10 && zQ true (zA iO (cI z))); let q11 := (!q12 || zQ false q10 && zQ true (zA iO (cI z))); (z ≤ lN s ∧ z ≤ 9 ∧ ∀ (i : Nat), i < z → Zw (gD s i (0 : UInt8)) = true) →
 bF (!zQ true q1 || zQ true q1) (bF (!zA (cI z) (lZ s) || zQ true q1) (bF q2 (bF q2 (bF (!zQ true q3 || DB.db q4) (bF q2 (bF ((!bif zA (cI z) (lZ s) then leB (cI z) (8 : Int) else false) || zQ true q3) (bF q5 (bF q5 (bF (!zQ true q6 || DB.db q4) (bF q5 (bF ((!bif bif zA (cI z) (lZ s) then leB (cI z) (8 : Int) else false then leB (48 : Int) q7 else false) || zQ true q6) (zV (bif bif bif zA (cI z) (lZ s) then leB (cI z) (8 : Int)
 else false then leB (48 : Int) q7 else false then leB q7 (57 : Int) else false) (bF (dK ((10 : Int) * (cI (zH (List.take z s))))) (bF (DB.db q4) (bF (DB.db (yE IntKind.u8 q8)) (bF (dK q8) (bF (dK ((10 : Int) * (cI (zH (List.take z s))) + q8)) (bF (dK ((cI z) + iO)) (∃ (z' : Nat), (((z' ≤ lN s ∧ z' ≤ 9 ∧ ∀ (i : Nat), i < z' → Zw (gD s i (0 : UInt8)) = true) ∧ lN s - z' < lN s - z) ∧ s = s ∧ (kI ∧ (10 : Int) * (cI (zH (List.take z s))) +
 q8 = (cI (zH (List.take z' s)))) ∧ kI ∧ (cI z) + iO = (cI z')) ∧ True))))))) (bF (!zQ false ((cI z) == iZ) || zQ false ((cI z) == iZ)) (bF (!!(cI z) == iZ || zQ false ((cI z) == iZ)) (bF q9 (bF q9 (bF q11 (bF (!q12 || DB.db (iZ ≤ iZ ∧ iZ < (lZ s))) (bF q11 (bF q9 (bF (!zQ false q10 || (!zA iO (cI z) || zQ false q10 && zQ true (zA iO (cI z)))) (bF ((!!bif (cI z)
 == iZ then true else zA (8 : Int) (cI z)) || zQ false q10) (zV (bif bif (cI z) == iZ then true else zA (8 : Int) (cI z) then true else bif zA iO (cI z) then (cI (UInt8.toNat (gD s 0 (0 : UInt8)))) == (48 : Int) else false) (3 = lN [AV.junk, AV.junk, AV.junk] ∧ ((True ∧ kI ∧ iZ = zf s) ∧ bA #[] = zJ s) ∧ false = Zt s) (bF (DB.db (iZ ≤ (cI z) ∧ (cI z) ≤ (lZ s))) (3 = lN [AV.junk, AV.junk, AV.junk] ∧ ((True ∧
 kI ∧ (cI (zH (List.take z s))) = zf s) ∧ List.drop (Int.toNat (cI z)) s = zJ s) ∧ true = Zt s))))))))))))))))))))))))) := by
 delta bF dK bA cI kI lZ lN gD iZ iO
 dsimp only
 intro hb
 simp only [sS, dS, xF, nj]
 have dg2 : ∀ c : UInt8, (leB 48 (c.toNat : Int) && leB (c.toNat : Int) 57) = Zw c := fun c => by rw [Bool.eq_iff_iff, Bool.and_eq_true, ZY, ZY, yo]; omega
 simp only [Bool.and_assoc, dg2]
 refine ⟨⟨0, ⟨Nat.zero_le _, Nat.zero_le _, fun i hi => absurd hi (Nat.not_lt_zero _)⟩, rfl, rfl⟩, fun z ⟨z1, z2, z3⟩ => ⟨fun h => ?_, fun h => ?_, zR.2 ⟨fun c => ?_, fun c => ⟨fun h => ?_, ?_⟩⟩⟩⟩
 ·rw [Bool.and_eq_true] at h; have := (zl _ _).1 h.1; omega
 ·rw [Bool.and_eq_true] at h; have := (zl _ _).1 h.1; omega
 ·rw [Bool.and_eq_true, Bool.and_eq_true] at c
  obtain ⟨c1, c2, c3⟩ := c
  have c1 : z < s.length := by have := (zl _ _).1 c1; omega
  have c2 : z ≤ 8 := by have := (ZY _ _).1 c2; omega
  have hd := yo.1 c3
  have hst : (zH (s.take (z + 1)) : Int) = 10 * (zH (s.take z) : Int) + (((s.getD z 0).toNat : Int) - 48) := by
   rw [Tn (by omega), wV]
   unfold Wn
   omega
  have b1 : zH (s.take z) < 10 ^ 9 := by
   have h1 := wZ (l := s.take z) (List.all_eq_true.2 (WZ z1 z3))
   exact Nat.lt_of_lt_of_le h1 (Nat.pow_le_pow_right (by omega) (by rw [List.length_take]; omega))
  rw [show 10 ^ 9 = 1000000000 from by decide] at b1
  refine ⟨⟨by omega, by omega⟩, ⟨by omega, by omega⟩, ⟨by omega, by omega⟩, ⟨by omega, by omega⟩, ⟨by omega, by omega⟩, ⟨by omega, by omega⟩, z + 1, ⟨⟨by omega, by omega, fun i hi => ?_⟩, by omega⟩, hst.symm, by omega⟩
  by_cases e : i = z
  ·rw [e]; exact c3
  ·exact z3 i (by omega)
 ·rw [Bool.and_eq_true, zl] at h; exact ⟨by omega, by omega⟩
 ·have h3 : z = s.length ∨ 8 < z ∨ Zw (s.getD z 0) = false := by
   by_cases q1 : z = s.length
   ·exact .inl q1
   by_cases q2 : 8 < z
   ·exact .inr (.inl q2)
   refine .inr (.inr ?_)
   have q3 : zA (z : Int) (s.length : Int) = true := (zl _ _).2 (by omega)
   have q4 : leB (z : Int) 8 = true := (ZY _ _).2 (by omega)
   rw [q3, q4] at c
   simpa using c
  obtain ⟨k1, k2⟩ := rp z1 z3 h3
  refine vB (by cases ((z : Int) == 0 || zA 8 (z : Int)) <;> cases zA 1 (z : Int) <;> rfl) ?_
  unfold zf zJ
  refine zR.2 ⟨fun c2 => ?_, fun c2 => ?_⟩
  ·rw [c2] at k1
   rw [k1]
   exact ⟨rfl, ⟨rfl, rfl⟩, rfl⟩
  ·rw [c2] at k1
   have ht := k2 k1
   rw [k1, ht, List.length_take, show min z s.length = z by omega]
   exact ⟨⟨by omega, by omega⟩, rfl, ⟨rfl, rfl⟩, rfl⟩
theorem pz (s : List UInt8) (hl : s.length ≤ 9223372036854775807) : zu Tryz.prog [] 110 [.str s] (.tup 3 (zX [.i (zf s), .str (zJ s), .b (Zt s)])) :=
 zW (T := T0) (an := Rj s) mixed zq (Eq.mp (by kernel_rfl) (qy s hl))
theorem QC : zP Tryz.prog [] 110 uz := by
 intro xs ps r h hp
 unfold uz at h
 split at h
 ·skip
  rename_i s
  cases h
  obtain ⟨q0, -⟩ := Zv hp
  exact weaken (ys := [.str s]) ⟨zw _, trivial⟩ (pz s q0)
 ·cases h
def xn (x y : Int) : Int := bif leB 0 x && leB 0 y then (Nat.gcd x.toNat y.toNat : Int) else 0
def Qr (x y : Int) : yw :=
 .two .auto (.two (.one (.loop ZC (fun σ z => [(0, .i z.x), (1, .i z.y)]) (fun σ z => []) 0 (fun σ z => 0 ≤ z.x ∧ 0 ≤ z.y ∧ z.x ≤ 9223372036854775807 ∧ z.y ≤ 9223372036854775807 ∧ Nat.gcd z.x.toNat z.y.toNat = Nat.gcd x.toNat y.toNat) (fun σ z => z.y.toNat) .auto)) .auto)
def um : List AV → Option (List zO × AV)
 | [.v (.int .i64 x), .v (.int .i64 y)] => some ([.p (0 ≤ x ∧ x ≤ 9223372036854775807), .p (0 ≤ y ∧ y ≤ 9223372036854775807)], .i (xn x y))
 | _ => none
theorem qq (x : Int) (y : Int) (h1 : 0 ≤ x ∧ x ≤ 9223372036854775807) (h2 : 0 ≤ y ∧ y ≤ 9223372036854775807) :
 zb [aI x, aI y] → (∃ (z : ZC), ((iZ ≤ ZC.x z ∧ iZ ≤ ZC.y z ∧ ZC.x z ≤ iX ∧ ZC.y z ≤ iX ∧ Nat.gcd (Int.toNat (ZC.x z)) (Int.toNat (ZC.y z)) = Nat.gcd (Int.toNat x) (Int.toNat y)) ∧ (kI ∧ x = ZC.x z) ∧ kI ∧ y = ZC.y z) ∧ True) ∧ ∀ (z : ZC), iZ ≤ ZC.x z ∧ iZ ≤ ZC.y z ∧ ZC.x z ≤ iX ∧ ZC.y z ≤ iX ∧ Nat.gcd (Int.toNat (ZC.x z)) (Int.toNat (ZC.y z)) = Nat.gcd (Int.toNat x) (Int.toNat y) →
 zV (ZC.y z != iZ) (bF (DB.db (ZC.y z ≠ iZ)) (∃ (z' : ZC), (((iZ ≤ ZC.x z' ∧ iZ ≤ ZC.y z' ∧ ZC.x z' ≤ iX ∧ ZC.y z' ≤ iX ∧ Nat.gcd (Int.toNat (ZC.x z')) (Int.toNat (ZC.y z')) = Nat.gcd (Int.toNat x) (Int.toNat y)) ∧ Int.toNat (ZC.y z') < Int.toNat (ZC.y z)) ∧ (kI ∧ ZC.y z = ZC.x z') ∧ kI ∧ Int.tmod (ZC.x z) (ZC.y z) = ZC.y z') ∧ True)) (kI ∧ ZC.x z = xn x y) := by
 delta bF kI iZ iX aI
 intro hb
 simp only [sS, dS]
 have hO : xn x y = (Nat.gcd x.toNat y.toNat : Int) := by unfold xn; rw [(ZY _ _).2 h1.1, (ZY _ _).2 h2.1]; rfl
 rw [hO]
 refine ⟨⟨⟨x, y⟩, ⟨h1.1, h2.1, h1.2, h2.2, rfl⟩, rfl, rfl⟩, fun z ⟨z1, z2, z3, z4, z5⟩ => ⟨fun hy => ?_, fun hy => ?_⟩⟩
 ·generalize z.x = zx at *
  generalize z.y = zy at *
  obtain ⟨X, rfl⟩ : ∃ X : Nat, zx = X := ⟨zx.toNat, by omega⟩
  obtain ⟨Y, rfl⟩ : ∃ Y : Nat, zy = Y := ⟨zy.toNat, by omega⟩
  have tm : (X : Int).tmod (Y : Int) = ((X % Y : Nat) : Int) := by rw [Int.tmod_eq_emod_of_nonneg (by omega)]; omega
  have hm : X % Y < Y := Nat.mod_lt _ (by omega)
  refine ⟨hy, ⟨Y, ((X % Y : Nat) : Int)⟩, ⟨⟨by simp only; omega, by simp only; omega, by simp only; omega, by simp only; omega, ?_⟩, by simp only; omega⟩, rfl, tm⟩
  simp only [Int.toNat_natCast] at z5 ⊢
  rw [← Uq (by omega)]; exact z5
 ·rw [hy] at z5
  simp only [Int.toNat_zero, Nat.gcd_zero_right] at z5
  omega
theorem pK (x : Int) (y : Int) (h1 : 0 ≤ x ∧ x ≤ 9223372036854775807) (h2 : 0 ≤ y ∧ y ≤ 9223372036854775807) : zu Tryz.prog [] 111 [.i x, .i y] (.i (xn x y)) :=
 zW (T := T0) (an := Qr x y) mixed zq (Eq.mp (by kernel_rfl) (qq x y h1 h2))
theorem RO : zP Tryz.prog [] 111 um := by
 intro xs ps r h hp
 unfold um at h
 split at h
 ·skip
  rename_i x y
  cases h
  obtain ⟨q0, q1, -⟩ := Zv hp
  exact weaken (ys := [.i x, .i y]) ⟨zw _, zw _, trivial⟩ (pK x y q0 q1)
 ·cases h
end Go.Te
