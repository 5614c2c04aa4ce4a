/- Contracts of the library at this program, laid out of the kit's shelf by its own tools, reduced. -/
import Derived.Shelf.Small.Bits
import Derived.Shelf.Strconv.Atoi
import Derived.Shelf.Strconv.Itoa3
import Derived.Shelf.Strings.Search2
import Derived.Shelf.Strings.Prefix
import Derived.Shelf.LaysM
import Derived.Test.YtinnclmkhedgeaaGreatDoorProg
import Derived.Test.YtinnclmkhedgeaaGreatDoorArA
import Derived.Shelf.Strings.SlTrimAscii
import Derived.Test.YtinnclmkhedgeaaGreatDoorSxS
set_option linter.unusedSimpArgs false
set_option linter.unusedVariables false
namespace Go.Proofs
open Go.Shelf
def Tryz.lays219_ren : Go.Shelf.Ren := ⟨fun | 219 => 271 | 217 => 288 | 225 => 289 | 224 => 290 | 267 => 291 | 266 => 300 | 314 => 301 | n => n, fun | 9 => 9 | 3 => 3 | 4 => 4 | 5 => 5 | 46 => 152 | 146 => 276 | 51 => 208 | n => n, fun | 1 => 5 | n => n⟩
theorem Tryz.lays219 : Go.Proofs.Lays.n219 Tryz.prog Tryz.lays219_ren := {
 mixed := by kernel_rfl
 f217 := Tryz.func288.trans (congrArg some (by kernel_rfl))
 f219 := Tryz.func271.trans (congrArg some (by kernel_rfl))
 f224 := Tryz.func290.trans (congrArg some (by kernel_rfl))
 f225 := Tryz.func289.trans (congrArg some (by kernel_rfl))
 f266 := Tryz.func300.trans (congrArg some (by kernel_rfl))
 f267 := Tryz.func291.trans (congrArg some (by kernel_rfl))
 f314 := Tryz.func301.trans (congrArg some (by kernel_rfl))
 t3 := Tryz.underlying3
 a3 := Tryz.isAgg3
 z3 := Tryz.sizeOf3
 v3 := Tryz.zeroValue3
 t4 := Tryz.underlying4
 a4 := Tryz.isAgg4
 z4 := Tryz.sizeOf4
 v4 := Tryz.zeroValue4
 t5 := Tryz.underlying5
 a5 := Tryz.isAgg5
 z5 := Tryz.sizeOf5
 v5 := Tryz.zeroValue5
 t9 := Tryz.underlying9
 a9 := Tryz.isAgg9
 z9 := Tryz.sizeOf9
 v9 := Tryz.zeroValue9
 t46 := Tryz.underlying152
 a46 := Tryz.isAgg152
 z46 := Tryz.sizeOf152
 v46 := Tryz.zeroValue152
 t51 := Tryz.underlying208
 a51 := Tryz.isAgg208
 z51 := Tryz.sizeOf208
 v51 := Tryz.zeroValue208
 t146 := Tryz.underlying276
 a146 := Tryz.isAgg276
 z146 := Tryz.sizeOf276
 v146 := Tryz.zeroValue276
 g1 := by kernel_rfl }
open Go.RowKit Go.Lib in
theorem Tryz.stringslite_Index_one (s : ByteArray) (c : UInt8) (w : World) :
  Calls Tryz.prog 271 #[.string s, .string ⟨#[c]⟩] w fun e w' => e = .returned (.int .i64 (Lib.indexByte s.data.toList c)) ∧ w' = w := Any.stringslite_Index_one Tryz.lays219 s c w
def Tryz.laysM171_ren : Go.Shelf.Ren := ⟨fun | 171 => 78 | 243 => 130 | 246 => 180 | 283 => 231 | 284 => 232 | 285 => 233 | 286 => 234 | 129 => 196 | 317 => 272 | 318 => 273 | 319 => 274 | 320 => 275 | 337 => 292 | 338 => 293 | n => n, fun | 3 => 3 | 9 => 9 | 2 => 2 | 4 => 4 | 171 => 241 | 0 => 0 | 53 => 210 | 37 => 218 | 5 => 5 | 173 => 243 | 212 => 272 | 51 => 208 | 20 => 20 | 213 => 273 | 46 => 152 | 232 => 299 | 233 => 300 | n => n, fun | 17 => 2 | 18 => 6 | 19 => 7 | n => n⟩
theorem Tryz.laysM171 : Go.Proofs.LaysM.n171 Tryz.prog Tryz.laysM171_ren := {
 mixed := by kernel_rfl
 f129 := Tryz.func196.trans (congrArg some (by kernel_rfl))
 f171 := Tryz.func78.trans (congrArg some (by kernel_rfl))
 f243 := Tryz.func130.trans (congrArg some (by kernel_rfl))
 f246 := Tryz.func180.trans (congrArg some (by kernel_rfl))
 f283 := Tryz.func231.trans (congrArg some (by kernel_rfl))
 f284 := Tryz.func232.trans (congrArg some (by kernel_rfl))
 f285 := Tryz.func233.trans (congrArg some (by kernel_rfl))
 f286 := Tryz.func234.trans (congrArg some (by kernel_rfl))
 f317 := Tryz.func272.trans (congrArg some (by kernel_rfl))
 f318 := Tryz.func273.trans (congrArg some (by kernel_rfl))
 f319 := Tryz.func274.trans (congrArg some (by kernel_rfl))
 f320 := Tryz.func275.trans (congrArg some (by kernel_rfl))
 f337 := Tryz.func292.trans (congrArg some (by kernel_rfl))
 f338 := Tryz.func293.trans (congrArg some (by kernel_rfl))
 t0 := Tryz.underlying0
 a0 := Tryz.isAgg0
 z0 := Tryz.sizeOf0
 v0 := Tryz.zeroValue0
 t2 := Tryz.underlying2
 a2 := Tryz.isAgg2
 z2 := Tryz.sizeOf2
 v2 := Tryz.zeroValue2
 t3 := Tryz.underlying3
 a3 := Tryz.isAgg3
 z3 := Tryz.sizeOf3
 v3 := Tryz.zeroValue3
 t4 := Tryz.underlying4
 a4 := Tryz.isAgg4
 z4 := Tryz.sizeOf4
 v4 := Tryz.zeroValue4
 t5 := Tryz.underlying5
 a5 := Tryz.isAgg5
 z5 := Tryz.sizeOf5
 v5 := Tryz.zeroValue5
 t9 := Tryz.underlying9
 a9 := Tryz.isAgg9
 z9 := Tryz.sizeOf9
 v9 := Tryz.zeroValue9
 t20 := Tryz.underlying20
 a20 := Tryz.isAgg20
 z20 := Tryz.sizeOf20
 v20 := Tryz.zeroValue20
 t37 := Tryz.underlying218
 a37 := Tryz.isAgg218
 z37 := Tryz.sizeOf218
 v37 := Tryz.zeroValue218
 t46 := Tryz.underlying152
 a46 := Tryz.isAgg152
 z46 := Tryz.sizeOf152
 v46 := Tryz.zeroValue152
 t51 := Tryz.underlying208
 a51 := Tryz.isAgg208
 z51 := Tryz.sizeOf208
 v51 := Tryz.zeroValue208
 t53 := Tryz.underlying210
 a53 := Tryz.isAgg210
 z53 := Tryz.sizeOf210
 v53 := Tryz.zeroValue210
 t171 := Tryz.underlying241
 a171 := Tryz.isAgg241
 z171 := Tryz.sizeOf241
 v171 := Tryz.zeroValue241
 t173 := Tryz.underlying243
 a173 := Tryz.isAgg243
 z173 := Tryz.sizeOf243
 v173 := Tryz.zeroValue243
 t212 := Tryz.underlying272
 a212 := Tryz.isAgg272
 z212 := Tryz.sizeOf272
 v212 := Tryz.zeroValue272
 t213 := Tryz.underlying273
 a213 := Tryz.isAgg273
 z213 := Tryz.sizeOf273
 t232 := Tryz.underlying299
 a232 := Tryz.isAgg299
 z232 := Tryz.sizeOf299
 v232 := Tryz.zeroValue299
 t233 := Tryz.underlying300
 a233 := Tryz.isAgg300
 z233 := Tryz.sizeOf300
 v233 := Tryz.zeroValue300
 g17 := by kernel_rfl
 g18 := by kernel_rfl
 g19 := by kernel_rfl
 i0 := by kernel_rfl
 i2 := by kernel_rfl
 i3 := by kernel_rfl
 i4 := by kernel_rfl
 i5 := by kernel_rfl
 i9 := by kernel_rfl
 i20 := by kernel_rfl
 i37 := by kernel_rfl
 i46 := by kernel_rfl
 i51 := by kernel_rfl
 i53 := by kernel_rfl
 i171 := by kernel_rfl
 i173 := by kernel_rfl
 i212 := by kernel_rfl
 i232 := by kernel_rfl
 i233 := by kernel_rfl
 m17 := by kernel_rfl
 m18 := by kernel_rfl
 m19 := by kernel_rfl }
open Go.RowKit Go.Sort Go.Lib in
theorem Tryz.strconv_Itoa (n : Int) (h0 : -9223372036854775808 ≤ n) (h1 : n ≤ 9223372036854775807) (w : World) (htab : Lib.TabIs Tryz.prog w "internal/strconv.uint64pow10" .u64 Lib.pow10Tab) :
  Calls Tryz.prog 78 #[.int .i64 n] w fun e w' => e = .returned (.string ⟨(Lib.itoa n).toArray⟩) ∧ ∃ k os, w' = grow (w.drewN k) os := Any.strconv_Itoa Tryz.laysM171 n h0 h1 w htab
def Tryz.lays160_ren : Go.Shelf.Ren := ⟨fun | 160 => 201 | 232 => 248 | 231 => 247 | 227 => 249 | 234 => 251 | 233 => 250 | 236 => 253 | 235 => 252 | 228 => 280 | 271 => 283 | 151 => 282 | 197 => 281 | 120 => 297 | 152 => 296 | 260 => 295 | 137 => 302 | 119 => 303 | 224 => 290 | 225 => 289 | 217 => 288 | 266 => 300 | n => n, fun | 9 => 9 | 4 => 4 | 3 => 3 | 5 => 5 | 117 => 260 | 116 => 259 | 0 => 0 | 124 => 263 | 21 => 21 | 105 => 281 | 46 => 152 | 119 => 301 | 139 => 304 | 138 => 303 | n => n, fun | 3 => 8 | 4 => 9 | n => n⟩
theorem Tryz.lays160 : Go.Proofs.Lays.n160 Tryz.prog Tryz.lays160_ren := {
 mixed := by kernel_rfl
 f119 := Tryz.func303.trans (congrArg some (by kernel_rfl))
 f120 := Tryz.func297.trans (congrArg some (by kernel_rfl))
 f137 := Tryz.func302.trans (congrArg some (by kernel_rfl))
 f151 := Tryz.func282.trans (congrArg some (by kernel_rfl))
 f152 := Tryz.func296.trans (congrArg some (by kernel_rfl))
 f160 := Tryz.func201.trans (congrArg some (by kernel_rfl))
 f197 := Tryz.func281.trans (congrArg some (by kernel_rfl))
 f217 := Tryz.func288.trans (congrArg some (by kernel_rfl))
 f224 := Tryz.func290.trans (congrArg some (by kernel_rfl))
 f225 := Tryz.func289.trans (congrArg some (by kernel_rfl))
 f227 := Tryz.func249.trans (congrArg some (by kernel_rfl))
 f228 := Tryz.func280.trans (congrArg some (by kernel_rfl))
 f231 := Tryz.func247.trans (congrArg some (by kernel_rfl))
 f232 := Tryz.func248.trans (congrArg some (by kernel_rfl))
 f233 := Tryz.func250.trans (congrArg some (by kernel_rfl))
 f234 := Tryz.func251.trans (congrArg some (by kernel_rfl))
 f235 := Tryz.func252.trans (congrArg some (by kernel_rfl))
 f236 := Tryz.func253.trans (congrArg some (by kernel_rfl))
 f260 := Tryz.func295.trans (congrArg some (by kernel_rfl))
 f266 := Tryz.func300.trans (congrArg some (by kernel_rfl))
 f271 := Tryz.func283.trans (congrArg some (by kernel_rfl))
 t0 := Tryz.underlying0
 a0 := Tryz.isAgg0
 z0 := Tryz.sizeOf0
 v0 := Tryz.zeroValue0
 t3 := Tryz.underlying3
 a3 := Tryz.isAgg3
 z3 := Tryz.sizeOf3
 v3 := Tryz.zeroValue3
 t4 := Tryz.underlying4
 a4 := Tryz.isAgg4
 z4 := Tryz.sizeOf4
 v4 := Tryz.zeroValue4
 t5 := Tryz.underlying5
 a5 := Tryz.isAgg5
 z5 := Tryz.sizeOf5
 v5 := Tryz.zeroValue5
 t9 := Tryz.underlying9
 a9 := Tryz.isAgg9
 z9 := Tryz.sizeOf9
 v9 := Tryz.zeroValue9
 t21 := Tryz.underlying21
 a21 := Tryz.isAgg21
 z21 := Tryz.sizeOf21
 v21 := Tryz.zeroValue21
 t46 := Tryz.underlying152
 a46 := Tryz.isAgg152
 z46 := Tryz.sizeOf152
 v46 := Tryz.zeroValue152
 t105 := Tryz.underlying281
 a105 := Tryz.isAgg281
 z105 := Tryz.sizeOf281
 v105 := Tryz.zeroValue281
 t116 := Tryz.underlying259
 a116 := Tryz.isAgg259
 z116 := Tryz.sizeOf259
 t117 := Tryz.underlying260
 a117 := Tryz.isAgg260
 z117 := Tryz.sizeOf260
 v117 := Tryz.zeroValue260
 t119 := Tryz.underlying301
 a119 := Tryz.isAgg301
 z119 := Tryz.sizeOf301
 t124 := Tryz.underlying263
 a124 := Tryz.isAgg263
 z124 := Tryz.sizeOf263
 v124 := Tryz.zeroValue263
 t138 := Tryz.underlying303
 a138 := Tryz.isAgg303
 z138 := Tryz.sizeOf303
 v138 := Tryz.zeroValue303
 t139 := Tryz.underlying304
 a139 := Tryz.isAgg304
 z139 := Tryz.sizeOf304
 v139 := Tryz.zeroValue304
 g3 := by kernel_rfl
 g4 := by kernel_rfl }
def Tryz.lays172_ren : Go.Shelf.Ren := ⟨fun | 172 => 143 | 244 => 202 | 245 => 203 | 247 => 254 | 279 => 255 | 280 => 256 | 281 => 257 | 282 => 258 | 287 => 284 | 316 => 285 | 171 => 78 | 205 => 286 | 321 => 298 | 322 => 299 | 243 => 130 | 246 => 180 | 283 => 231 | 284 => 232 | 285 => 233 | 286 => 234 | 129 => 196 | 317 => 272 | 318 => 273 | 319 => 274 | 320 => 275 | 337 => 292 | 338 => 293 | n => n, fun | 9 => 9 | 3 => 3 | 75 => 160 | 76 => 161 | 4 => 4 | 5 => 5 | 167 => 264 | 37 => 218 | 0 => 0 | 85 => 265 | 2 => 2 | 168 => 267 | 53 => 210 | 175 => 284 | 46 => 152 | 210 => 287 | 127 => 270 | 145 => 297 | 143 => 295 | 21 => 21 | 171 => 241 | 173 => 243 | 212 => 272 | 51 => 208 | 20 => 20 | 213 => 273 | 232 => 299 | 233 => 300 | 80 => 223 | n => n, fun | 15 => 3 | 16 => 4 | 17 => 2 | 18 => 6 | 19 => 7 | n => n⟩
theorem Tryz.lays172 : Go.Proofs.Lays.n172 Tryz.prog Tryz.lays172_ren := {
 mixed := by kernel_rfl
 f129 := Tryz.func196.trans (congrArg some (by kernel_rfl))
 f171 := Tryz.func78.trans (congrArg some (by kernel_rfl))
 f172 := Tryz.func143.trans (congrArg some (by kernel_rfl))
 f205 := Tryz.func286.trans (congrArg some (by kernel_rfl))
 f243 := Tryz.func130.trans (congrArg some (by kernel_rfl))
 f244 := Tryz.func202.trans (congrArg some (by kernel_rfl))
 f245 := Tryz.func203.trans (congrArg some (by kernel_rfl))
 f246 := Tryz.func180.trans (congrArg some (by kernel_rfl))
 f247 := Tryz.func254.trans (congrArg some (by kernel_rfl))
 f279 := Tryz.func255.trans (congrArg some (by kernel_rfl))
 f280 := Tryz.func256.trans (congrArg some (by kernel_rfl))
 f281 := Tryz.func257.trans (congrArg some (by kernel_rfl))
 f282 := Tryz.func258.trans (congrArg some (by kernel_rfl))
 f283 := Tryz.func231.trans (congrArg some (by kernel_rfl))
 f284 := Tryz.func232.trans (congrArg some (by kernel_rfl))
 f285 := Tryz.func233.trans (congrArg some (by kernel_rfl))
 f286 := Tryz.func234.trans (congrArg some (by kernel_rfl))
 f287 := Tryz.func284.trans (congrArg some (by kernel_rfl))
 f316 := Tryz.func285.trans (congrArg some (by kernel_rfl))
 f317 := Tryz.func272.trans (congrArg some (by kernel_rfl))
 f318 := Tryz.func273.trans (congrArg some (by kernel_rfl))
 f319 := Tryz.func274.trans (congrArg some (by kernel_rfl))
 f320 := Tryz.func275.trans (congrArg some (by kernel_rfl))
 f321 := Tryz.func298.trans (congrArg some (by kernel_rfl))
 f322 := Tryz.func299.trans (congrArg some (by kernel_rfl))
 f337 := Tryz.func292.trans (congrArg some (by kernel_rfl))
 f338 := Tryz.func293.trans (congrArg some (by kernel_rfl))
 t0 := Tryz.underlying0
 a0 := Tryz.isAgg0
 z0 := Tryz.sizeOf0
 v0 := Tryz.zeroValue0
 t2 := Tryz.underlying2
 a2 := Tryz.isAgg2
 z2 := Tryz.sizeOf2
 v2 := Tryz.zeroValue2
 t3 := Tryz.underlying3
 a3 := Tryz.isAgg3
 z3 := Tryz.sizeOf3
 v3 := Tryz.zeroValue3
 t4 := Tryz.underlying4
 a4 := Tryz.isAgg4
 z4 := Tryz.sizeOf4
 v4 := Tryz.zeroValue4
 t5 := Tryz.underlying5
 a5 := Tryz.isAgg5
 z5 := Tryz.sizeOf5
 v5 := Tryz.zeroValue5
 t9 := Tryz.underlying9
 a9 := Tryz.isAgg9
 z9 := Tryz.sizeOf9
 v9 := Tryz.zeroValue9
 t20 := Tryz.underlying20
 a20 := Tryz.isAgg20
 z20 := Tryz.sizeOf20
 v20 := Tryz.zeroValue20
 t21 := Tryz.underlying21
 a21 := Tryz.isAgg21
 z21 := Tryz.sizeOf21
 v21 := Tryz.zeroValue21
 t37 := Tryz.underlying218
 a37 := Tryz.isAgg218
 z37 := Tryz.sizeOf218
 v37 := Tryz.zeroValue218
 t46 := Tryz.underlying152
 a46 := Tryz.isAgg152
 z46 := Tryz.sizeOf152
 v46 := Tryz.zeroValue152
 t51 := Tryz.underlying208
 a51 := Tryz.isAgg208
 z51 := Tryz.sizeOf208
 v51 := Tryz.zeroValue208
 t53 := Tryz.underlying210
 a53 := Tryz.isAgg210
 z53 := Tryz.sizeOf210
 v53 := Tryz.zeroValue210
 t75 := Tryz.underlying160
 a75 := Tryz.isAgg160
 z75 := Tryz.sizeOf160
 v75 := Tryz.zeroValue160
 t76 := Tryz.underlying161
 a76 := Tryz.isAgg161
 z76 := Tryz.sizeOf161
 v76 := Tryz.zeroValue161
 t85 := Tryz.underlying265
 a85 := Tryz.isAgg265
 z85 := Tryz.sizeOf265
 v85 := Tryz.zeroValue265
 t127 := Tryz.underlying270
 a127 := Tryz.isAgg270
 z127 := Tryz.sizeOf270
 v127 := Tryz.zeroValue270
 t143 := Tryz.underlying295
 a143 := Tryz.isAgg295
 z143 := Tryz.sizeOf295
 v143 := Tryz.zeroValue295
 t145 := Tryz.underlying297
 a145 := Tryz.isAgg297
 z145 := Tryz.sizeOf297
 v145 := Tryz.zeroValue297
 t167 := Tryz.underlying264
 a167 := Tryz.isAgg264
 z167 := Tryz.sizeOf264
 v167 := Tryz.zeroValue264
 t168 := Tryz.underlying267
 a168 := Tryz.isAgg267
 z168 := Tryz.sizeOf267
 v168 := Tryz.zeroValue267
 t171 := Tryz.underlying241
 a171 := Tryz.isAgg241
 z171 := Tryz.sizeOf241
 v171 := Tryz.zeroValue241
 t173 := Tryz.underlying243
 a173 := Tryz.isAgg243
 z173 := Tryz.sizeOf243
 v173 := Tryz.zeroValue243
 t175 := Tryz.underlying284
 a175 := Tryz.isAgg284
 z175 := Tryz.sizeOf284
 v175 := Tryz.zeroValue284
 t210 := Tryz.underlying287
 a210 := Tryz.isAgg287
 z210 := Tryz.sizeOf287
 v210 := Tryz.zeroValue287
 t212 := Tryz.underlying272
 a212 := Tryz.isAgg272
 z212 := Tryz.sizeOf272
 v212 := Tryz.zeroValue272
 t213 := Tryz.underlying273
 a213 := Tryz.isAgg273
 z213 := Tryz.sizeOf273
 t232 := Tryz.underlying299
 a232 := Tryz.isAgg299
 z232 := Tryz.sizeOf299
 v232 := Tryz.zeroValue299
 t233 := Tryz.underlying300
 a233 := Tryz.isAgg300
 z233 := Tryz.sizeOf300
 v233 := Tryz.zeroValue300
 g15 := by kernel_rfl
 g16 := by kernel_rfl
 g17 := by kernel_rfl
 g18 := by kernel_rfl
 g19 := by kernel_rfl }
open Go.RowKit in
theorem Tryz.strconv_Atoi (s : ByteArray) (n : Int) (hl : s.size ≤ 18) (h : Lib.atoi s.data.toList = some n) (w : World) :
  Calls Tryz.prog 143 #[.string s] w fun e w' => e = .returned (.tuple #[.int .i64 n, .nilIface]) ∧ ∃ t, w' = Lib.bytesWorld w 5 t := Any.strconv_Atoi Tryz.lays172 s n hl h w
def Tryz.lays206_ren : Go.Shelf.Ren := ⟨fun | 206 => 131 | n => n, fun | 9 => 9 | 4 => 4 | 3 => 3 | n => n, fun | n => n⟩
theorem Tryz.lays206 : Go.Proofs.Lays.n206 Tryz.prog Tryz.lays206_ren := {
 mixed := by kernel_rfl
 f206 := Tryz.func131.trans (congrArg some (by kernel_rfl))
 t3 := Tryz.underlying3
 a3 := Tryz.isAgg3
 z3 := Tryz.sizeOf3
 v3 := Tryz.zeroValue3
 t4 := Tryz.underlying4
 a4 := Tryz.isAgg4
 z4 := Tryz.sizeOf4
 v4 := Tryz.zeroValue4
 t9 := Tryz.underlying9
 a9 := Tryz.isAgg9
 z9 := Tryz.sizeOf9
 v9 := Tryz.zeroValue9 }
open Go.RowKit Go.Lib in
theorem Tryz.stringslite_HasPrefix (s p : ByteArray) (w : World) :
  Calls Tryz.prog 131 #[.string s, .string p] w fun e w' => e = .returned (.bool (Lib.hasPrefix s.data.toList p.data.toList)) ∧ w' = w := Any.stringslite_HasPrefix Tryz.lays206 s p w
def Tryz.lays125_ren : Go.Shelf.Ren := ⟨fun | 125 => 137 | 128 => 195 | 129 => 196 | n => n, fun | 46 => 152 | 3 => 3 | 51 => 208 | 53 => 210 | 4 => 4 | 5 => 5 | 9 => 9 | n => n, fun | n => n⟩
theorem Tryz.lays125 : Go.Proofs.Lays.n125 Tryz.prog Tryz.lays125_ren := {
 mixed := by kernel_rfl
 f125 := Tryz.func137.trans (congrArg some (by kernel_rfl))
 f128 := Tryz.func195.trans (congrArg some (by kernel_rfl))
 f129 := Tryz.func196.trans (congrArg some (by kernel_rfl))
 t3 := Tryz.underlying3
 a3 := Tryz.isAgg3
 z3 := Tryz.sizeOf3
 v3 := Tryz.zeroValue3
 t4 := Tryz.underlying4
 a4 := Tryz.isAgg4
 z4 := Tryz.sizeOf4
 v4 := Tryz.zeroValue4
 t5 := Tryz.underlying5
 a5 := Tryz.isAgg5
 z5 := Tryz.sizeOf5
 v5 := Tryz.zeroValue5
 t9 := Tryz.underlying9
 a9 := Tryz.isAgg9
 z9 := Tryz.sizeOf9
 v9 := Tryz.zeroValue9
 t46 := Tryz.underlying152
 a46 := Tryz.isAgg152
 z46 := Tryz.sizeOf152
 v46 := Tryz.zeroValue152
 t51 := Tryz.underlying208
 a51 := Tryz.isAgg208
 z51 := Tryz.sizeOf208
 v51 := Tryz.zeroValue208
 t53 := Tryz.underlying210
 a53 := Tryz.isAgg210
 z53 := Tryz.sizeOf210
 v53 := Tryz.zeroValue210 }
theorem Tryz.bits_Len (x : Int) (w : World) (h0 : 0 ≤ x) (h1 : x ≤ 18446744073709551615) :
  Calls Tryz.prog 137 #[.int .u64 x] w fun e w' => e = .returned (.int .i64 (Lib.bitLen x.toNat)) ∧ w' = w := Any.bits_Len Tryz.lays125 x w h0 h1
end Go.Proofs

namespace Go.Te
open Go Go.Sx Go.Proofs Go.Ar Go.RowKit
set_option maxRecDepth 100000
set_option maxHeartbeats 4000000
theorem mixed : Tryz.prog.follows .mixedOrders = true := by kernel_rfl
abbrev T0 : Tb := U7 []
def UF : List AV → Option (List zO × AV)
 | [.str s, .str [c]] => some ([], .i (Lib.indexByte s c))
 | _ => none
theorem Qh : zn Tryz.prog [] 271 UF := by
 intro xs ps r h hp
 unfold UF at h
 split at h
 ·rename_i s c
  cases h
  refine ⟨enters_of Tryz.func271 (by kernel_rfl) rfl, fun w S vals hS hg hr => ?_⟩
  match vals, hr with
  | [v, v2], ⟨hv, hv2, _⟩ =>
  obtain rfl := Zu hv
  obtain rfl := Zu hv2
  refine (Tryz.stringslite_Index_one ⟨s.toArray⟩ c w).mono ?_
  rintro e w' ⟨rfl, rfl⟩
  exact ⟨⟨Below.refl _ _, Nat.le_refl _⟩, _, rfl, .v _⟩
 ·cases h
theorem zV.mono {P : Program} {G : List (Nat × Obj)} {f : FuncId} {xs : List AV} {r : AV} (h : zV P [] f xs r) : zV P G f xs r :=
 ⟨h.1, fun w S vals hS _ hr => h.2 w S vals hS (fun b o hbo => by cases hbo) hr⟩
theorem Z3.mono {P : Program} {G : List (Nat × Obj)} {f : FuncId} {xs : List AV} {t : TypeId} {sz len : Nat} {els : Nat → Nat → AV} (h : Z3 P [] f xs t sz len els) : Z3 P G f xs t sz len els :=
 ⟨h.1, fun w S vals hS _ hr => h.2 w S vals hS (fun b o hbo => by cases hbo) hr⟩
theorem zn.mono {P : Program} {G : List (Nat × Obj)} {f : FuncId} {t : List AV → Option (List zO × AV)} (h : zn P [] f t) : zn P G f t := fun xs ps r e hp => zV.mono (h xs ps r e hp)
theorem tT.mono {P : Program} {G : List (Nat × Obj)} {f : FuncId} {t : List AV → Option (List zO × TypeId × Nat × Nat × (Nat → Nat → AV))} (h : tT P [] f t) : tT P G f t := fun xs ps ty sz len els e hp => Z3.mono (h xs ps ty sz len els e hp)
def zQ : Array Value := #[.string ⟨#[50]⟩, .string ⟨#[51]⟩, .string ⟨#[53]⟩, .string ⟨#[55]⟩, .string ⟨#[49, 49]⟩, .string ⟨#[49, 51]⟩, .string ⟨#[49, 55]⟩, .string ⟨#[49, 57]⟩, .string ⟨#[50, 51]⟩, .string ⟨#[50, 57]⟩, .string ⟨#[51, 49]⟩, .string ⟨#[51, 55]⟩, .string ⟨#[52, 49]⟩, .string ⟨#[52, 51]⟩, .string ⟨#[52, 55]⟩, .string ⟨#[53, 51]⟩, .string ⟨#[53, 57]⟩, .string ⟨#[54, 49]⟩, .string ⟨#[54, 55]⟩, .string ⟨#[55, 49]⟩, .string ⟨#[55, 51]⟩, .string ⟨#[55, 57]⟩, .string ⟨#[56, 51]⟩, .string ⟨#[56, 57]⟩, .string ⟨#[57, 55]⟩]
def zJ (G : List (Nat × Obj)) : Prop :=
 (∃ g t fr, Tryz.prog.globalNamed "internal/strconv.uint64pow10" = some g ∧ (g, Obj.cells (Lib.pow10Tab.map fun z => Value.int .u64 z).toArray t fr) ∈ G) ∧
 ∃ t fr G', G = (1, Obj.cells zQ t fr) :: G'
def UW : List AV → Option (List zO × AV)
 | [.v (.int .i64 n)] => some ([.p (Ys .i64 n)], .str (Lib.itoa n))
 | _ => none
theorem QZ {G : List (Nat × Obj)} (hG : zJ G) : zn Tryz.prog G 78 UW := by
 intro xs ps r h hp
 unfold UW at h
 split at h
 ·rename_i n
  cases h
  have hn : Ys .i64 n := hp _ List.mem_cons_self
  simp only [Ys] at hn
  refine ⟨enters_of Tryz.func78 (by kernel_rfl) rfl, fun w S vals hS hg hr => ?_⟩
  match vals, hr with
  | [v], ⟨hv, _⟩ =>
  obtain rfl := zD hv
  obtain ⟨⟨g, t, fr, hname, hmem⟩, _⟩ := hG
  have htab : Lib.TabIs Tryz.prog w "internal/strconv.uint64pow10" .u64 Lib.pow10Tab := by
   unfold Lib.TabIs World.var?
   rw [hname]
   simp only [Option.bind_some, (hg _ _ hmem).2]
  refine (Tryz.strconv_Itoa n hn.1 hn.2 w htab).mono ?_
  rintro e w' ⟨rfl, k, os, rfl⟩
  exact ⟨⟨⟨rfl, rfl, rfl, by simp [Go.Sort.grow, World.drewN], fun b hb => by simp [Go.Sort.grow, World.drewN, Array.getElem?_append, hb]⟩, by simp [dn, Go.Sort.grow, World.drewN]⟩, _, rfl, .str _⟩
 ·cases h
noncomputable def pJ (G : List (Nat × Obj)) : Tb := (U7 G).plus 78 UW
theorem xr {G : List (Nat × Obj)} (hG : zJ G) : zz Tryz.prog (pJ G) := zz.plus zN (QZ hG)
def QP : List AV → Option (List zO × AV)
 | [.str s, .str p] => some ([], .b (Lib.hasPrefix s p))
 | _ => none
theorem PQ : zn Tryz.prog [] 131 QP := by
 intro xs ps r h hp
 unfold QP at h
 split at h
 ·rename_i s p
  cases h
  refine ⟨enters_of Tryz.func131 (by kernel_rfl) rfl, fun w S vals hS hg hr => ?_⟩
  match vals, hr with
  | [v, v2], ⟨hv, hv2, _⟩ =>
  obtain rfl := Zu hv
  obtain rfl := Zu hv2
  refine (Tryz.stringslite_HasPrefix ⟨s.toArray⟩ ⟨p.toArray⟩ w).mono ?_
  rintro e w' ⟨rfl, rfl⟩
  exact ⟨⟨Below.refl _ _, Nat.le_refl _⟩, _, rfl, .v _⟩
 ·cases h
theorem U1 (s : zL) : Lib.hasPrefix s [45] = zE s := by
 unfold Lib.hasPrefix zE
 match s with
 | [] => rfl
 | c :: r => simp [List.isPrefixOf, Bool.beq_comm]
noncomputable def PS : Tb := (T0.plus 131 QP).body Tryz.prog [(165, .auto), (204, .auto)]
theorem XI : zz Tryz.prog PS := zz.body mixed (zz.plus zN PQ) _
def Yx (g : zL → AV) : List AV → Option (List zO × AV)
 | [.str s, .str p] => some ([.b (p == [45])], g s)
 | _ => none
theorem Uj {f : FuncId} {g : zL → AV} (hf : ∀ s : zL, zV Tryz.prog [] f [.str s, .str [45]] (g s)) : zn Tryz.prog [] f (Yx g) := by
 intro xs ps r h hp
 unfold Yx at h
 split at h
 ·rename_i s p
  cases h
  have q : (p == [45]) = true := hp _ List.mem_cons_self
  obtain rfl := eq_of_beq q
  exact hf s
 ·cases h
theorem tr {s : zL} (h : zE s = true) : s.drop 1 = zv s ∧ 1 ≤ s.length := by
 refine ⟨by unfold zv; rw [h]; rfl, ?_⟩
 match s, h with
 | [], h => cases h
 | c :: r, _ => simp
theorem tS {s : zL} (h : zE s = false) : s = zv s := by unfold zv; rw [h]; rfl
theorem se (s : zL) :
 Zw [AV.str s, AV.str [(45 : UInt8)]] → zw (Lib.hasPrefix s [(45 : UInt8)]) (bF (DB.db (iZ ≤ (↑1 : Int) ∧ (↑1 : Int) ≤ (lZ s))) (List.drop 1 s = zv s)) (s = zv s) := by
 delta bF lZ iZ
 intro hb
 simp only [sS, dS, U1]
 refine zT.2 ⟨fun c => ?_, fun c => tS c⟩
 obtain ⟨h1, h2⟩ := tr c
 exact ⟨⟨by omega, by omega⟩, h1⟩
theorem Rz (s : zL) :
 Zw [AV.str s, AV.str [(45 : UInt8)]] → zw (!Lib.hasPrefix s [(45 : UInt8)]) (j2 ∧ (True ∧ s = zv s) ∧ false = zE s) (bF (DB.db (iZ ≤ (↑1 : Int) ∧ (↑1 : Int) ≤ (lZ s))) (j2 ∧ (True ∧ List.drop 1 s = zv s) ∧ true = zE s)) := by
 delta bF j2 lZ iZ
 intro hb
 simp only [sS, dS, U1]
 refine zT.2 ⟨fun c => ?_, fun c => ?_⟩
 ·rw [Bool.not_eq_true'] at c
  exact ⟨rfl, tS c, c.symm⟩
 ·rw [Bool.not_eq_false'] at c
  obtain ⟨h1, h2⟩ := tr c
  exact ⟨⟨by omega, by omega⟩, rfl, h1, c.symm⟩
theorem R8 (s : zL) :
 Zw [AV.str s, AV.str [(45 : UInt8)]] → Lib.hasPrefix s [(45 : UInt8)] = zE s := by
 intro hb
 simp only [sS, dS, U1]
theorem wt : zn Tryz.prog [] 114 (Yx fun s => .str (zv s)) :=
 Uj fun s => zW mixed XI (Eq.mp (by kernel_rfl) (se s) : Vw Tryz.prog PS 114 .auto [.str s, .str [45]] (.str (zv s)))
theorem qF : zn Tryz.prog [] 144 (Yx fun s => .tup 2 (zY [.str (zv s), .b (zE s)])) :=
 Uj fun s => zW mixed XI (Eq.mp (by kernel_rfl) (Rz s) : Vw Tryz.prog PS 144 .auto [.str s, .str [45]] (.tup 2 (zY [.str (zv s), .b (zE s)])))
theorem Qy : zn Tryz.prog [] 80 (Yx fun s => .b (zE s)) :=
 Uj fun s => zW mixed XI (Eq.mp (by kernel_rfl) (R8 s) : Vw Tryz.prog PS 80 .auto [.str s, .str [45]] (.b (zE s)))
def XX : zL := [48, 49, 50, 51, 52, 53, 54, 55, 56, 57]
theorem sI (c : UInt8) : XX.contains c = ZZ c := by
 have key : ∀ n : Fin 256, XX.contains (UInt8.ofNat n.val) = ZZ (UInt8.ofNat n.val) := by decide +kernel
 have := key ⟨c.toNat, c.toNat_lt⟩
 simpa using this
theorem xQ {p : UInt8 → Bool} : ∀ {l : zL}, l.dropWhile p = [] ↔ l.all p = true
 | [] => by simp
 | c :: r => by
  rw [List.dropWhile_cons, List.all_cons]
  cases h : p c with
  | true => simp only [if_true, Bool.true_and]; exact xQ
  | false => simp
theorem Wy {p : UInt8 → Bool} : ∀ {l : zL} {c : UInt8} {r : zL}, l.dropWhile p = c :: r → p c = false
 | [], _, _, h => by cases h
 | x :: l, c, r, h => by
  rw [List.dropWhile_cons] at h
  cases hx : p x with
  | true => rw [hx, if_pos rfl] at h; exact Wy h
  | false => rw [hx] at h; simp only [Bool.false_eq_true, if_false, List.cons.injEq] at h; rw [← h.1]; exact hx
theorem sY (s : zL) : (Lib.trimS s XX == []) = s.all ZZ := by
 have hp : (fun c => XX.contains c) = ZZ := funext sI
 unfold Lib.trimS Lib.trimLeftS Lib.trimRightS
 rw [hp, Bool.eq_iff_iff, beq_iff_eq, xQ, List.all_reverse]
 constructor
 ·intro h
  rw [← List.all_reverse, ← xQ]
  cases hd : s.reverse.dropWhile ZZ with
  | nil => rfl
  | cons c r =>
   rw [hd, List.all_cons, Wy hd] at h
   cases h
 ·intro h
  rw [xQ.2 (by rw [List.all_reverse]; exact h)]
  rfl
def tv : List AV → Option (List zO × AV)
 | [.str s, .str c] => some ([.b (c == XX), .p (s.length ≤ 4294967280)], .str (Lib.trimS s XX))
 | _ => none
theorem Qp : zn Tryz.prog [] 201 tv := by
 intro xs ps r h hp
 unfold tv at h
 split at h
 ·rename_i s c
  cases h
  have q : (c == XX) = true := hp _ List.mem_cons_self
  have hl : s.length ≤ 4294967280 := hp _ (List.mem_cons_of_mem _ List.mem_cons_self)
  obtain rfl := eq_of_beq q
  refine ⟨enters_of Tryz.func201 (by kernel_rfl) rfl, fun w S vals hS hg hr => ?_⟩
  match vals, hr with
  | [v, v2], ⟨hv, hv2, _⟩ =>
  obtain rfl := Zu hv
  obtain rfl := Zu hv2
  have hsz : (⟨s.toArray⟩ : ByteArray).size = s.length := rfl
  by_cases h0 : s.length = 0
  ·refine (Any.strings_Trim_empty Tryz.lays160 ⟨s.toArray⟩ ⟨XX.toArray⟩ w (.inl h0)).mono ?_
   rintro e w' ⟨rfl, rfl⟩
   have he : s = [] := List.eq_nil_of_length_eq_zero h0
   subst he
   exact ⟨⟨Below.refl _ _, Nat.le_refl _⟩, _, rfl, .str _⟩
  ·refine (Any.strings_Trim_set Tryz.lays160 (by intro w; kernel_rfl) (by kernel_rfl) ⟨s.toArray⟩ ⟨XX.toArray⟩ w (by decide) (by omega) (by omega) (by decide) (by
    intro j b hj
    have : b ∈ XX := List.mem_of_getElem? hj
    revert this
    exact (show ∀ x ∈ XX, x.toNat < 128 by decide) b)).mono ?_
   rintro e w' ⟨rfl, q, rfl⟩
   refine ⟨⟨⟨rfl, rfl, rfl, ?_, fun b hb => ?_⟩, pV (Nat.le_add_right _ _)⟩, _, rfl, .str _⟩
   ·show w.heap.size ≤ ((w.heap.push _).push _).size
    rw [Array.size_push, Array.size_push]; omega
   ·show ((w.heap.push _).push _)[b]? = _
    rw [Array.getElem?_push, if_neg (by rw [Array.size_push]; omega), Array.getElem?_push, if_neg (by omega)]
 ·cases h
theorem uQ {c : UInt8} (h : ZZ c = true) : Lib.digitVal c = some (WS c) := by
 have key : ∀ n : Fin 256, ZZ (UInt8.ofNat n.val) = true → Lib.digitVal (UInt8.ofNat n.val) = some (WS (UInt8.ofNat n.val)) := by decide +kernel
 have := key ⟨c.toNat, c.toNat_lt⟩
 simp only [UInt8.ofNat_toNat] at this
 exact this h
theorem WO : ∀ {l : zL} (a : Nat), (∀ c ∈ l, ZZ c = true) → Lib.decFrom a l = some (a * 10 ^ l.length + zi l)
 | [], a, _ => by simp [Lib.decFrom, zi]
 | c :: r, a, h => by
  unfold Lib.decFrom
  rw [uQ (h c List.mem_cons_self)]
  simp only
  rw [WO _ fun x hx => h x (List.mem_cons_of_mem _ hx), Xi, List.length_cons, Nat.pow_succ, Nat.add_mul]
  congr 1
  rw [Nat.mul_assoc, Nat.mul_comm 10, Nat.add_assoc]
theorem vR {l : zL} (h : Zt l = true) : Lib.decNat l = some (zi l) := by
 obtain ⟨h1, h2, _⟩ := ZT.1 h
 unfold Lib.decNat
 rw [show l.isEmpty = false by cases l with | nil => cases h1 | cons c r => rfl]
 simp only [Bool.false_eq_true, if_false]
 rw [WO 0 h2, Nat.zero_mul, Nat.zero_add]
theorem sB {s : zL} (h : ZX s = true) : Lib.atoi s = some (zu s) := by
 rcases yu h with ⟨r, rfl, h1, _, h3⟩ | ⟨h1, h3⟩
 ·rw [h3]
  show (Lib.decNat r).map (fun (m : Nat) => -(m : Int)) = _
  rw [vR h1]; rfl
 ·rw [h3]
  obtain ⟨h4, h5, _⟩ := ZT.1 h1
  match s, h4, h5, h1 with
  | c :: r, _, h5, h1 =>
   have hc := yy.1 (h5 c List.mem_cons_self)
   show (if c == 45 then _ else if c == 43 then _ else (Lib.decNat (c :: r)).map fun (m : Nat) => (m : Int)) = _
   rw [if_neg (by rw [beq_iff_eq]; intro e; subst e; exact absurd hc.1 (by decide)), if_neg (by rw [beq_iff_eq]; intro e; subst e; exact absurd hc.1 (by decide)), vR h1]; rfl
def WN : List AV → Option (List zO × AV)
 | [.str s] => some ([.b (ZX s), .p (s.length ≤ 18)], .tup 2 (zY [.i (zu s), .v .nilIface]))
 | _ => none
theorem Ub : zn Tryz.prog [] 143 WN := by
 intro xs ps r h hp
 unfold WN at h
 split at h
 ·rename_i s
  cases h
  have q : ZX s = true := hp _ List.mem_cons_self
  have hl : s.length ≤ 18 := hp _ (List.mem_cons_of_mem _ List.mem_cons_self)
  refine ⟨enters_of Tryz.func143 (by kernel_rfl) rfl, fun w S vals hS hg hr => ?_⟩
  match vals, hr with
  | [v], ⟨hv, _⟩ =>
  obtain rfl := Zu hv
  refine (Tryz.strconv_Atoi ⟨s.toArray⟩ (zu s) hl (sB q) w).mono ?_
  rintro e w' ⟨rfl, t, rfl⟩
  refine ⟨⟨⟨?_, ?_, ?_, by rw [Lib.bytesWorld_size]; omega, fun b hb => Lib.bytesWorld_at_old w 5 t b hb⟩, ?_⟩, _, rfl, ?_⟩
  ·rfl
  ·rfl
  ·rfl
  ·exact sR w 1
  ·exact .tup _ rfl fun i hi => by
    match i, hi with
    | 0, _ => exact .v _
    | 1, _ => exact .v _
 ·cases h
end Go.Te

namespace Go.Te
open Go Go.Sx Go.Proofs Go.Ar Go.RowKit
set_option maxRecDepth 100000
set_option maxHeartbeats 4000000
theorem tH (a : zL) : ZX a = !(zv a == [] || (zv a).getD 0 0 == 48 && !(a == [48]) || !(zv a).all ZZ) ∧ Yu a = (zv a).length := by
 match a with
 | [] => exact ⟨rfl, rfl⟩
 | c :: r =>
  by_cases hc : c = 45
  ·subst hc
   have h1 := vO (a := 45 :: r) (by simp) rfl
   have ho : zv (45 :: r) = r := rfl
   rw [ho, h1.2.1, h1.2.2.1]
   refine ⟨?_, by simp⟩
   show (Zt r && !(r == [48])) = _
   rw [show ((45 :: r : zL) == [48]) = false from rfl]
   unfold Zt
   match r with
   | [] => rfl
   | [d] =>
    cases hd : ZZ d <;> cases h48 : d == 48 <;> simp_all
   | d :: e :: t =>
    simp only [List.length_cons, List.getD_cons_zero, Bool.not_false, Bool.and_true]
    rw [(zf _ _).2 (by omega), (zf _ _).2 (by omega), show ((d :: e :: t : zL) == []) = false from rfl, show ((d :: e :: t : zL) == [48]) = false by simp]
    cases (d :: e :: t).all ZZ <;> cases d == 48 <;> rfl
  ·have hm : zE (c :: r) = false := beq_eq_false_iff_ne.2 hc
   have ho : zv (c :: r) = c :: r := by unfold zv; rw [hm]; rfl
   obtain ⟨h1, h2, _⟩ := xp (a := c :: r) fun h => hc h.2
   rw [ho, h1, h2]
   refine ⟨?_, rfl⟩
   unfold Zt
   match r with
   | [] =>
    cases hd : ZZ c <;> cases h48 : c == 48 <;> simp_all
    rfl
   | e :: t =>
    simp only [List.length_cons, List.getD_cons_zero]
    rw [(zf _ _).2 (by omega), (zf _ _).2 (by omega), show ((c :: e :: t : zL) == []) = false from rfl, show ((c :: e :: t : zL) == [48]) = false by simp]
    cases (c :: e :: t).all ZZ <;> cases c == 48 <;> rfl
noncomputable def PG : Tb := (T0.plus 114 (Yx fun s => .str (zv s))).plus 201 tv
theorem TF : zz Tryz.prog PG := zz.plus (zz.plus zN wt) Qp
def Wv : List AV → Option (List zO × AV)
 | [.str a] => some ([.p (a.length ≤ 4294967280)], .i (YE a))
 | _ => none
theorem TC (a : List UInt8) (hl : a.length ≤ 4294967280) :
 let q2 := (zv a == bA #[]); let q1 := (!zq false q2 || zq false q2); let q4 := (cI (UInt8.toNat (gD (zv a) 0 (0 : UInt8)))); let q3 := (q4 == (48 : Int)); let q7 := (ByteArray.data (ByteArray.mk #[(48 : UInt8)])); let q6 := (bif zv a == bA #[] then true else bif q4 == (48 : Int) then !a == Array.toList q7 else false); let q5 := (!zq false q6 || zq false q6); Zw [AV.str a] → bF q1 (zw (!zq false q2 || DB.db (iZ ≤ iZ ∧ iZ < (lZ (zv a))))
 (bF q1 (bF q1 (bF (!(zq false q2 && zq true q3) || zq false q2 && zq true q3) (bF q1 (bF (!zq false q2 || (!q4 == (48 : Int) || zq false q2 && zq true q3)) (bF (!!zv a == bA #[] || zq false q2) (bF q5 (zw (!zq false q6 || bA #[(48 : UInt8), (49 : UInt8), (50 : UInt8), (51 : UInt8), (52 : UInt8), (53 : UInt8), (54 : UInt8), (55 : UInt8), (56 : UInt8), (57 : UInt8)] == XX) ((zq false q6 = true → lN (zv a) ≤ nM) ∧ bF q5 (bF ((!!bif
 zv a == bA #[] then true else bif q4 == (48 : Int) then !a == Array.toList q7 else false) || zq false q6) (zw (bif bif zv a == bA #[] then true else bif q4 == (48 : Int) then !a == Array.toList q7 else false then true else !Lib.trimS (zv a) XX == bA #[]) (kI ∧ (11 : Int) = YE a) (zw (Zz (300 : Int) (lZ (zv a))) (kI ∧ (4 : Int) = YE a) (kI ∧ iZ = YE a)))))
 False)))))))) False) := by
 delta bF bA nM cI kI lZ lN gD iZ
 dsimp only
 intro hb
 simp only [sS, dS]
 have h48 : ((((zv a).getD 0 0).toNat : Int) == 48) = ((zv a).getD 0 0 == 48) := XQ ((zv a).getD 0 0) 48 (by decide)
 obtain ⟨hI, hL⟩ := tH a
 have hol := XY a
 rw [show (([48, 49, 50, 51, 52, 53, 54, 55, 56, 57] : zL) == XX) = true from rfl, sY, h48]
 have e1 : (!(zv a == [])) = true → 0 < (zv a).length := fun h => by
  match hs : zv a, h with
  | c :: r, _ => simp
 refine ⟨fun h => ⟨Int.le_refl _, by have := e1 h; omega⟩, ?_⟩
 refine vv (by cases zv a == [] <;> cases (zv a).getD 0 0 == 48 <;> rfl) ?_
 refine vv (by cases zv a == [] <;> cases (zv a).getD 0 0 == 48 <;> cases a == [48] <;> rfl) ?_
 refine ⟨fun _ => by omega, zT.2 ⟨fun c => ?_, fun c => ?_⟩⟩
 ·rw [c] at hI
  exact (SN (by rw [hI]; decide)).symm
 ·rw [c] at hI
  rw [R5 hI, hL]
  refine ⟨fun h => ?_, fun h => ?_⟩
  ·rw [(zf _ _).2 (by omega)]; rfl
  ·rw [show Nat.blt 300 (zv a).length = false from Bool.eq_false_iff.2 fun e => by have := (zf _ _).1 e; omega]; rfl
theorem SJ (a : List UInt8) (hl : a.length ≤ 4294967280) : zV Tryz.prog [] 142 [.str a] (.i (YE a)) :=
 zW (T := PG) (an := .auto) mixed TF (Eq.mp (by kernel_rfl) (TC a hl))
theorem rW : zn Tryz.prog [] 142 Wv := by
 intro xs ps r h hp
 unfold Wv at h
 split at h
 ·skip
  rename_i a
  cases h
  obtain ⟨q0, -⟩ := Zr hp
  exact weaken (ys := [.str a]) ⟨zX _, trivial⟩ (SJ a q0)
 ·cases h
end Go.Te

namespace Go.Te
open Go Go.Sx Go.Proofs Go.Ar
set_option maxRecDepth 100000
set_option maxHeartbeats 4000000
def Zs (a : zL) : Prop := ZX a = true ∧ a.length ≤ 18
theorem pQ {a : zL} (h : Zs a) : YE a = 0 := Zh.2 ⟨h.1, by have := (wR a).1; have := h.2; omega⟩
theorem s0 {a : zL} (h : ZX a = true) : (zu a).natAbs < 10 ^ a.length := by
 by_cases hm : a.getD 0 0 = 45
 ·have h0 : 0 < a.length := by
   match a, h with
   | [], h => cases h
   | c :: r, _ => simp
  obtain ⟨_, hm1, _, hm4⟩ := vO h0 hm
  rw [hm4]
  rw [h] at hm1
  have hd : Zt (a.drop 1) = true := by
   cases hx : Zt (a.drop 1) with
   | true => rfl
   | false => rw [hx] at hm1; cases hm1
  have := Xr (l := a.drop 1) (List.all_eq_true.2 (ZT.1 hd).2.1)
  have h3 : 10 ^ (a.drop 1).length ≤ 10 ^ a.length := Nat.pow_le_pow_right (by omega) (by simp)
  omega
 ·obtain ⟨hp1, _, hp3⟩ := xp (a := a) fun e => hm e.2
  rw [hp3]
  have := Xr (l := a) (List.all_eq_true.2 (ZT.1 (hp1.symm.trans h)).2.1)
  omega
theorem sx {a : zL} (h : Zs a) : (zu a).natAbs < 1000000000000000000 :=
 Nat.lt_of_lt_of_le (s0 h.1) (Nat.le_trans (Nat.pow_le_pow_right (by omega) h.2) (by decide))
def Ul : List AV → Option (List zO × AV)
 | [.str a, .str b] => some ([.p (Zs a), .p (Zs b)], .i 0)
 | _ => none
theorem rR (a : List UInt8) (b : List UInt8) (ha : Zs a) (hc : Zs b) :
 Zw [AV.str a, AV.str b] → lN a ≤ nM ∧ zw (YE a != iZ) (kI ∧ YE a = iZ) (lN b ≤ nM ∧ kI ∧ YE b = iZ) := by
 delta nM kI lN iZ
 intro hb
 simp only [sS, dS]
 have := ha.2
 have := hc.2
 exact ⟨by omega, fun _ => pQ ha, fun _ => ⟨by omega, pQ hc⟩⟩
theorem Qb (a : List UInt8) (b : List UInt8) (ha : Zs a) (hc : Zs b) : zV Tryz.prog [] 96 [.str a, .str b] (.i 0) :=
 zW (T := T0.plus 142 Wv) (an := .auto) mixed (zz.plus zN rW) (Eq.mp (by kernel_rfl) (rR a b ha hc))
theorem qk : zn Tryz.prog [] 96 Ul := by
 intro xs ps r h hp
 unfold Ul at h
 split at h
 ·skip
  rename_i a b
  cases h
  obtain ⟨q0, q1, -⟩ := Zr hp
  exact weaken (ys := [.str a, .str b]) ⟨zX _, zX _, trivial⟩ (Qb a b q0 q1)
 ·cases h
def tw : List AV → Option (List zO × AV)
 | [.str a, .str b, .v (.int .i64 m)] => some ([.p (Zs a), .p (Zs b), .p (m = 18)], .tup 3 (zY [.i (zu a), .i (zu b), .b true]))
 | _ => none
theorem rJ (a : List UInt8) (b : List UInt8) (m : Int) (ha : Zs a) (hc : Zs b) (hm : m = 18) :
 let q1 := (!zq false (Zz m (lZ a)) || zq false (Zz m (lZ a))); Zw [AV.str a, AV.str b, aI m] → bF q1 (bF q1 (bF q1 (bF (!!Zz m (lZ a) || zq false (Zz m (lZ a))) (zw (bif Zz m (lZ a) then true else Zz m (lZ b)) (3 = lN [AV.junk, AV.junk, AV.junk] ∧ ((True ∧ kI ∧ iZ = zu a) ∧ kI ∧ iZ = zu b) ∧ false = true) (bF (ZX a) (lN a ≤ 18 ∧ bF (ZX b) (lN b ≤ 18
 ∧ 3 = lN [AV.junk, AV.junk, AV.junk] ∧ ((True ∧ kI ∧ zu a = zu a) ∧ kI ∧ zu b = zu b) ∧ (bif true then true else false) = true))))))) := by
 delta bF kI lZ lN iZ aI
 dsimp only
 intro hb
 simp only [sS, dS]
 subst hm
 obtain ⟨h1, h2⟩ := ha
 obtain ⟨h3, h4⟩ := hc
 refine zT.2 ⟨fun c => ?_, fun c => ?_⟩
 ·rw [Bool.or_eq_true, zm, zm] at c
  omega
 ·rw [h1, h3]
  exact ⟨by omega, by omega, rfl⟩
theorem qC (a : List UInt8) (b : List UInt8) (m : Int) (ha : Zs a) (hc : Zs b) (hm : m = 18) : zV Tryz.prog [] 97 [.str a, .str b, .i m] (.tup 3 (zY [.i (zu a), .i (zu b), .b true])) :=
 zW (T := T0.plus 143 WN) (an := .auto) mixed (zz.plus zN Ub) (Eq.mp (by kernel_rfl) (rJ a b m ha hc hm))
theorem Q0 : zn Tryz.prog [] 97 tw := by
 intro xs ps r h hp
 unfold tw at h
 split at h
 ·skip
  rename_i a b m
  cases h
  obtain ⟨q0, q1, q2, -⟩ := Zr hp
  exact weaken (ys := [.str a, .str b, .i m]) ⟨zX _, zX _, zX _, trivial⟩ (qC a b m q0 q1 q2)
 ·cases h
noncomputable def Pp (G : List (Nat × Obj)) : Tb := ((pJ G).plus 96 Ul).plus 97 tw
theorem vP {G : List (Nat × Obj)} (hG : zJ G) : zz Tryz.prog (Pp G) := zz.plus (zz.plus (xr hG) (zn.mono qk)) (zn.mono Q0)
theorem Ui (x : Int) : (if -x > x then -x else x) = (x.natAbs : Int) := by split <;> omega
def xJ (a b : zL) : Nat := Nat.gcd (zu a).natAbs (zu b).natAbs
structure Zg where
 x : Int
 y : Int
def Rn (a b : zL) : Z4 :=
 .two .auto (.two .auto (.two (.two .auto (.two .auto (.two (.two (.one (.loop Zg (fun σ z => [(7, .i z.x), (8, .i z.y)]) (fun σ z => []) 0 (fun σ z => Nat.gcd z.x.natAbs z.y.natAbs = xJ a b ∧ z.x.natAbs ≤ 1000000000000000000 ∧ z.y.natAbs ≤ 1000000000000000000) (fun σ z => z.y.natAbs) .auto)) .auto) .auto))) .auto))
def UQ : List AV → Option (List zO × AV)
 | [.str a, .str b] => some ([.p (Zs a), .p (Zs b)], .tup 2 (zY [.str (Lib.itoa (xJ a b : Int)), .i 0]))
 | _ => none
theorem R3 (G : List (Nat × Obj)) (a : List UInt8) (b : List UInt8) (ha : Zs a) (hc : Zs b) :
 Zw [AV.str a, AV.str b] → (ZX a = true ∧ lN a ≤ 18) ∧ (ZX b = true ∧ lN b ≤ 18) ∧ (ZX a = true ∧ lN a ≤ 18) ∧ (ZX b = true ∧ lN b ≤ 18) ∧ (18 : Int) = (18 : Int) ∧ (∃ (z : Zg), ((Nat.gcd (Int.natAbs (Zg.x z)) (Int.natAbs (Zg.y z)) = xJ a b ∧ Int.natAbs (Zg.x z) ≤ 1000000000000000000 ∧ Int.natAbs (Zg.y z) ≤ 1000000000000000000) ∧ (kI ∧ zu a = Zg.x z) ∧ kI ∧ zu b = Zg.y z) ∧ True) ∧ ∀ (z : Zg), Nat.gcd (Int.natAbs (Zg.x z)) (Int.natAbs (Zg.y z)) = xJ a b ∧ Int.natAbs (Zg.x z) ≤ 1000000000000000000 ∧
 Int.natAbs (Zg.y z) ≤ 1000000000000000000 → zw (Zg.y z != iZ) (bF (DB.db (Zg.y z ≠ iZ)) (∃ (z' : Zg), (((Nat.gcd (Int.natAbs (Zg.x z')) (Int.natAbs (Zg.y z')) = xJ a b ∧ Int.natAbs (Zg.x z') ≤ 1000000000000000000 ∧ Int.natAbs (Zg.y z') ≤ 1000000000000000000) ∧ Int.natAbs (Zg.y z') < Int.natAbs (Zg.y z)) ∧ (kI ∧ Zg.y z = Zg.x z') ∧ kI ∧ Int.tmod (Zg.x z) (Zg.y z) = Zg.y z') ∧ True)) (bF (dK (-Zg.x z)) (((iN ≤ if -Zg.x z > Zg.x z then -Zg.x z else Zg.x z) ∧ (if -Zg.x z >
 Zg.x z then -Zg.x z else Zg.x z) ≤ iX) ∧ j2 ∧ (True ∧ Lib.itoa (if -Zg.x z > Zg.x z then -Zg.x z else Zg.x z) = Lib.itoa (cI (xJ a b))) ∧ kI ∧ iZ = iZ)) := by
 delta bF dK cI kI j2 lN iZ iX iN
 intro hb
 simp only [sS, dS]
 have x1 := sx ha
 have x2 := sx hc
 refine ⟨ha, hc, ha, hc, ⟨⟨zu a, zu b⟩, ⟨rfl, by simp only; omega, by simp only; omega⟩, rfl, rfl⟩, fun z ⟨z1, z2, z3⟩ => ⟨fun hy => ⟨hy, ⟨z.y, z.x.tmod z.y⟩, ⟨⟨?_, z3, ?_⟩, ?_⟩, rfl, rfl⟩, fun hy => ?_⟩⟩
 ·rw [Int.natAbs_tmod, ← uT (y := z.y.natAbs) (by omega), z1]
 ·rw [Int.natAbs_tmod]
  have : z.x.natAbs % z.y.natAbs ≤ z.x.natAbs := Nat.mod_le _ _
  omega
 ·rw [Int.natAbs_tmod]
  exact Nat.mod_lt _ (by omega)
 ·rw [hy, Int.natAbs_zero, Nat.gcd_zero_right] at z1
  rw [Ui, z1]
  rw [z1] at z2
  exact ⟨⟨by omega, by omega⟩, ⟨by omega, by omega⟩, rfl, rfl⟩
theorem QK {G : List (Nat × Obj)} (hG : zJ G) (a : List UInt8) (b : List UInt8) (ha : Zs a) (hc : Zs b) : zV Tryz.prog G 102 [.str a, .str b] (.tup 2 (zY [.str (Lib.itoa (xJ a b : Int)), .i 0])) :=
 zW (T := Pp G) (an := Rn a b) mixed (vP hG) (Eq.mp (by kernel_rfl) (R3 G a b ha hc))
theorem Q3 {G : List (Nat × Obj)} (hG : zJ G) : zn Tryz.prog G 102 UQ := by
 intro xs ps r h hp
 unfold UQ at h
 split at h
 ·skip
  rename_i a b
  cases h
  obtain ⟨q0, q1, -⟩ := Zr hp
  exact weaken (ys := [.str a, .str b]) ⟨zX _, zX _, trivial⟩ (QK hG a b q0 q1)
 ·cases h
theorem Sc {a b q r : Int} (h : r + b * q = a) (hr : (0 < b ∧ 0 ≤ r ∧ r < b) ∨ (b < 0 ∧ b < r ∧ r ≤ 0)) : Int.fdiv a b = q ∧ Int.fmod a b = r := by
 rcases hr with ⟨h0, h1, h2⟩ | ⟨h0, h1, h2⟩
 ·rw [Int.fdiv_eq_ediv_of_nonneg _ (by omega), Int.fmod_eq_emod_of_nonneg _ (by omega)]
  exact (Int.ediv_emod_unique h0).2 ⟨h, h1, h2⟩
 ·have h3 : (-a) / (-b) = q ∧ (-a) % (-b) = -r := (Int.ediv_emod_unique (by omega)).2 ⟨by rw [Int.neg_mul]; omega, by omega, by omega⟩
  rw [← Int.neg_fdiv_neg, Int.fdiv_eq_ediv_of_nonneg _ (by omega)]
  refine ⟨h3.1, ?_⟩
  have h4 := Int.neg_fmod_neg a b
  rw [Int.fmod_eq_emod_of_nonneg _ (by omega), h3.2] at h4
  omega
theorem SL {a b : Int} (hb : b ≠ 0) :
  ((a.tmod b != 0 && !(Zz (a.tmod b) 0 == Zz b 0)) = true → Int.fdiv a b = a.tdiv b - 1 ∧ Int.fmod a b = a.tmod b + b) ∧
  ((a.tmod b != 0 && !(Zz (a.tmod b) 0 == Zz b 0)) = false → Int.fdiv a b = a.tdiv b ∧ Int.fmod a b = a.tmod b) ∧ (a.tmod b).natAbs < b.natAbs ∧ (a.tdiv b).natAbs ≤ a.natAbs := by
 have e := Int.mul_tdiv_add_tmod a b
 have m : (a.tmod b).natAbs < b.natAbs := by rw [Int.natAbs_tmod]; exact Nat.mod_lt _ (by omega)
 refine ⟨fun c => Sc ?_ ?_, fun c => Sc (by omega) ?_, m, Int.natAbs_tdiv_le_natAbs a b⟩
 ·rw [Int.mul_sub, Int.mul_one]; omega
 all_goals
  generalize a.tmod b = r at *
  rcases Int.lt_or_le b 0 with h1 | h1 <;> rcases Int.lt_or_le r 0 with h2 | h2
  ·rw [(zm _ _).2 h1, (zm _ _).2 h2] at c
   simp at c <;> omega
  ·rw [(zm _ _).2 h1, show Zz r 0 = false from Bool.eq_false_iff.2 fun e => by have := (zm _ _).1 e; omega] at c
   simp at c <;> omega
  ·rw [(zm _ _).2 h2, show Zz b 0 = false from Bool.eq_false_iff.2 fun e => by have := (zm _ _).1 e; omega] at c
   simp at c <;> omega
  ·rw [show Zz b 0 = false from Bool.eq_false_iff.2 fun e => by have := (zm _ _).1 e; omega, show Zz r 0 = false from Bool.eq_false_iff.2 fun e => by have := (zm _ _).1 e; omega] at c
   simp at c <;> omega
def Uo : List AV → Option (List zO × AV)
 | [.str a, .str b] => some ([.p (Zs a), .p (Zs b), .p (0 < zu b)], .tup 3 (zY [.str (Lib.itoa (zu a / zu b)), .str (Lib.itoa (zu a % zu b)), .i 0]))
 | _ => none
theorem Rv (G : List (Nat × Obj)) (a : List UInt8) (b : List UInt8) (ha : Zs a) (hc : Zs b) (hd : 0 < zu b) :
 let q2 := (Int.tmod (zu a) (zu b) != iZ); let q1 := (!zq true q2 || zq true q2); let q3 := (Int.tdiv (zu a) (zu b) - iO); Zw [AV.str a, AV.str b] → (ZX a = true ∧ lN a ≤ 18) ∧ (ZX b = true ∧ lN b ≤ 18) ∧ zw (b == bA #[(48 : UInt8)]) (3 = lN [AV.junk, AV.junk, AV.junk] ∧ ((True ∧ bA #[] = Lib.itoa (zu a / zu b)) ∧ bA #[] = Lib.itoa (zu a % zu b)) ∧ kI ∧ (12 : Int) = iZ) ((ZX a
 = true ∧ lN a ≤ 18) ∧ (ZX b = true ∧ lN b ≤ 18) ∧ (18 : Int) = (18 : Int) ∧ bF (DB.db (zu b ≠ iZ)) (bF (dK (Int.tdiv (zu a) (zu b))) (bF (DB.db (zu b ≠ iZ)) (bF q1 (bF q1 (bF q1 (bF q1 (bF (!Int.tmod (zu a) (zu b) != iZ || zq true q2) (zw (bif Int.tmod (zu a) (zu b) != iZ then !Zz (Int.tmod (zu a) (zu b)) iZ == Zz (zu b) iZ else false) (bF (dK q3) (bF (dK (Int.tmod (zu a) (zu b) + zu b)) ((iN
 ≤ Int.tdiv (zu a) (zu b) - iO ∧ Int.tdiv (zu a) (zu b) - iO ≤ iX) ∧ (iN ≤ Int.tmod (zu a) (zu b) + zu b ∧ Int.tmod (zu a) (zu b) + zu b ≤ iX) ∧ 3 = lN [AV.junk, AV.junk, AV.junk] ∧ ((True ∧ Lib.itoa q3 = Lib.itoa (zu a / zu b)) ∧ Lib.itoa (Int.tmod (zu a) (zu b) + zu b) = Lib.itoa (zu a % zu b)) ∧ kI ∧ iZ = iZ))) ((iN ≤ Int.tdiv (zu a) (zu b) ∧ Int.tdiv (zu a) (zu b) ≤ (9223372036854775807
 : Int)) ∧ (iN ≤ Int.tmod (zu a) (zu b) ∧ Int.tmod (zu a) (zu b) ≤ iX) ∧ 3 = lN [AV.junk, AV.junk, AV.junk] ∧ ((True ∧ Lib.itoa (Int.tdiv (zu a) (zu b)) = Lib.itoa (zu a / zu b)) ∧ Lib.itoa (Int.tmod (zu a) (zu b)) = Lib.itoa (zu a % zu b)) ∧ kI ∧ iZ = iZ)))))))))) := by
 delta bF dK bA kI lN iZ iO iX iN
 dsimp only
 intro hb
 simp only [sS, dS]
 have x1 := sx ha
 have x2 := sx hc
 have h0 : (b == [48]) = false := beq_eq_false_iff_ne.2 fun e => by subst e; exact absurd hd (by decide)
 obtain ⟨f1, f2, f3, f4⟩ := SL (a := zu a) (b := zu b) (by omega)
 rw [Int.fdiv_eq_ediv_of_nonneg _ (by omega), Int.fmod_eq_emod_of_nonneg _ (by omega)] at f1 f2
 rw [h0, po]
 refine ⟨ha, hc, ha, hc, by omega, ⟨by omega, by omega⟩, by omega, zT.2 ⟨fun c => ?_, fun c => ?_⟩⟩
 ·obtain ⟨g1, g2⟩ := f1 c
  rw [g1, g2]
  exact ⟨⟨by omega, by omega⟩, ⟨by omega, by omega⟩, ⟨by omega, by omega⟩, ⟨by omega, by omega⟩, rfl, rfl, rfl⟩
 ·obtain ⟨g1, g2⟩ := f2 c
  rw [g1, g2]
  exact ⟨⟨by omega, by omega⟩, ⟨by omega, by omega⟩, rfl, rfl, rfl⟩
theorem Qg {G : List (Nat × Obj)} (hG : zJ G) (a : List UInt8) (b : List UInt8) (ha : Zs a) (hc : Zs b) (hd : 0 < zu b) : zV Tryz.prog G 103 [.str a, .str b] (.tup 3 (zY [.str (Lib.itoa (zu a / zu b)), .str (Lib.itoa (zu a % zu b)), .i 0])) :=
 zW (T := Pp G) (an := .auto) mixed (vP hG) (Eq.mp (by kernel_rfl) (Rv G a b ha hc hd))
theorem Qf {G : List (Nat × Obj)} (hG : zJ G) : zn Tryz.prog G 103 Uo := by
 intro xs ps r h hp
 unfold Uo at h
 split at h
 ·skip
  rename_i a b
  cases h
  obtain ⟨q0, q1, q2, -⟩ := Zr hp
  exact weaken (ys := [.str a, .str b]) ⟨zX _, zX _, trivial⟩ (Qg hG a b q0 q1 q2)
 ·cases h
end Go.Te

namespace Go.Te
open Go Go.Sx Go.Proofs Go.Ar
set_option maxRecDepth 100000
set_option maxHeartbeats 4000000
def YF (s : zL) : zL := s.takeWhile ZZ
def ZV (s : zL) : Bool := Zt (YF s) && leB ((YF s).length : Int) 8
def zG (s : zL) : Int := bif ZV s then (zi (YF s) : Int) else 0
def zK (s : zL) : zL := bif ZV s then s.drop (YF s).length else []
theorem vC {a b : zL} (h : ∀ c ∈ a, ZZ c = true) : YF (a ++ b) = a ++ YF b := by
 unfold YF
 exact List.takeWhile_append_of_pos h
theorem wq {s : zL} {z : Nat} (h1 : z ≤ s.length) (h2 : ∀ i, i < z → ZZ (s.getD i 0) = true) : ∀ c ∈ s.take z, ZZ c = true := fun c hc => by
 obtain ⟨i, hi, e⟩ := Wt hc
 rw [List.length_take] at hi
 rw [← e, getD_takeS (by omega)]
 exact h2 i (by omega)
theorem tE {s : zL} {z : Nat} (h1 : z ≤ s.length) (h2 : ∀ i, i < z → ZZ (s.getD i 0) = true) (h3 : z = s.length ∨ ZZ (s.getD z 0) = false) : YF s = s.take z := by
 conv => lhs; rw [← List.take_append_drop z s]
 rw [vC (wq h1 h2)]
 have : YF (s.drop z) = [] := by
  by_cases hz : z = s.length
  ·rw [List.drop_of_length_le (by omega)]; rfl
  ·rw [wN (by omega)]
   unfold YF
   rw [List.takeWhile_cons, h3.resolve_left hz]
   rfl
 rw [this, List.append_nil]
theorem pG {s : zL} {z : Nat} (h1 : z ≤ s.length) (h2 : ∀ i, i < z → ZZ (s.getD i 0) = true) : z ≤ (YF s).length := by
 have : YF s = s.take z ++ YF (s.drop z) := by
  conv => lhs; rw [← List.take_append_drop z s]
  exact vC (wq h1 h2)
 rw [this, List.length_append, List.length_take]
 omega
theorem SS {s : zL} {z : Nat} (h1 : z ≤ s.length) (h2 : ∀ i, i < z → ZZ (s.getD i 0) = true) (h3 : z = s.length ∨ 8 < z ∨ ZZ (s.getD z 0) = false) :
  ZV s = !((z : Int) == 0 || Zz 8 (z : Int) || Zz 1 (z : Int) && ((s.getD 0 0).toNat : Int) == 48) ∧ (ZV s = true → YF s = s.take z) := by
 by_cases h8 : 8 < z
 ·have hg := pG h1 h2
  have e : ZV s = false := by
   unfold ZV
   rw [show leB ((YF s).length : Int) 8 = false from Bool.eq_false_iff.2 fun e => by have := (ZY _ _).1 e; omega, Bool.and_false]
  rw [e, (zm _ _).2 (show (8 : Int) < (z : Int) by omega)]
  exact ⟨by simp, fun h => by cases h⟩
 ·have ht := tE h1 h2 (h3.imp id fun h => h.resolve_left h8)
  refine ⟨?_, fun _ => ht⟩
  have e48 : (((s.getD 0 0).toNat : Int) == 48) = (s.getD 0 0 == 48) := XQ (s.getD 0 0) 48 (by decide)
  unfold ZV
  have hl : (s.take z).length = z := by rw [List.length_take]; omega
  rw [ht, hl, e48, (ZY _ _).2 (show (z : Int) ≤ 8 by omega), Bool.and_true, show Zz 8 (z : Int) = false from Bool.eq_false_iff.2 fun e => by have := (zm _ _).1 e; omega]
  unfold Zt
  rw [hl, List.all_eq_true.2 (wq h1 h2), show Zz 1 (z : Int) = Nat.blt 1 z from by rw [Bool.eq_iff_iff, zm, zf]; omega]
  by_cases h0 : z = 0
  ·subst h0; rfl
  ·rw [(zf _ _).2 (show 0 < z by omega), beq_eq_false_iff_ne.2 (show (z : Int) ≠ 0 by omega), getD_takeS (show 0 < z by omega)]
   cases Nat.blt 1 z <;> cases s.getD 0 0 == 48 <;> rfl
def Sn (s : zL) : Z4 :=
 .two .auto (.two .auto (.two (.one (.loop Nat (fun σ z => [(0, σ.tm 0), (5, .i (zi (s.take z) : Int)), (6, .i (z : Int))]) (fun σ z => []) 0 (fun σ z => z ≤ s.length ∧ z ≤ 9 ∧ ∀ i, i < z → ZZ (s.getD i 0) = true) (fun σ z => s.length - z) .auto)) .auto))
def Vo : List AV → Option (List zO × AV)
 | [.str s] => some ([.p (s.length ≤ 9223372036854775807)], .tup 3 (zY [.i (zG s), .str (zK s), .b (ZV s)]))
 | _ => none
theorem Sq (s : List UInt8) (hl : s.length ≤ 9223372036854775807) :
 Zw [AV.str s] → (∃ (z : Nat), ((z ≤ lN s ∧ z ≤ 9 ∧ ∀ (i : Nat), i < z → ZZ (gD s i (0 : UInt8)) = true) ∧ s = s ∧ (kI ∧ iZ = (cI (zi (List.take z s)))) ∧ kI ∧ iZ = (cI z)) ∧ True) ∧ ∀ (z : Nat), let q1 := (Zz (cI z) (lZ s)); let q3 := (bif Zz (cI z) (lZ s) then leB (cI z) (8 : Int) else false); let q2 := (!zq true q3 || zq true q3); let q4 := (iZ ≤ (cI z) ∧ (cI z) < (lZ s)); let q7 := (cI (UInt8.toNat (gD s (Int.toNat (↑z : Int))
 (0 : UInt8)))); let q6 := (bif bif Zz (cI z) (lZ s) then leB (cI z) (8 : Int) else false then leB (48 : Int) q7 else false); let q5 := (!zq true q6 || zq true q6); let q8 := (q7 - (48 : Int)); let q10 := (bif (cI z) == iZ then true else Zz (8 : Int) (cI z)); let q9 := (!zq false q10 || zq false q10); let q12 := (zq false q10 && zq true (Zz iO (cI z))); let q11 := (!q12 || zq false q10 && zq true (Zz iO (cI z))); (z ≤ lN s ∧ z ≤ 9 ∧ ∀ (i : Nat), i < z → ZZ (gD s i (0 : UInt8)) = true) →
 bF (!zq true q1 || zq true q1) (bF (!Zz (cI z) (lZ s) || zq true q1) (bF q2 (bF q2 (bF (!zq true q3 || DB.db q4) (bF q2 (bF ((!bif Zz (cI z) (lZ s) then leB (cI z) (8 : Int) else false) || zq true q3) (bF q5 (bF q5 (bF (!zq true q6 || DB.db q4) (bF q5 (bF ((!bif bif Zz (cI z) (lZ s) then leB (cI z) (8 : Int) else false then leB (48 : Int) q7 else false) || zq true q6) (zw (bif bif bif Zz (cI z) (lZ s) then leB (cI z) (8 : Int)
 else false then leB (48 : Int) q7 else false then leB q7 (57 : Int) else false) (bF (dK ((10 : Int) * (cI (zi (List.take z s))))) (bF (DB.db q4) (bF (DB.db (Ys IntKind.u8 q8)) (bF (dK q8) (bF (dK ((10 : Int) * (cI (zi (List.take z s))) + q8)) (bF (dK ((cI z) + iO)) (∃ (z' : Nat), (((z' ≤ lN s ∧ z' ≤ 9 ∧ ∀ (i : Nat), i < z' → ZZ (gD s i (0 : UInt8)) = true) ∧ lN s - z' < lN s - z) ∧ s = s ∧ (kI ∧ (10 : Int) * (cI (zi (List.take z s))) +
 q8 = (cI (zi (List.take z' s)))) ∧ kI ∧ (cI z) + iO = (cI z')) ∧ True))))))) (bF (!zq false ((cI z) == iZ) || zq false ((cI z) == iZ)) (bF (!!(cI z) == iZ || zq false ((cI z) == iZ)) (bF q9 (bF q9 (bF q11 (bF (!q12 || DB.db (iZ ≤ iZ ∧ iZ < (lZ s))) (bF q11 (bF q9 (bF (!zq false q10 || (!Zz iO (cI z) || zq false q10 && zq true (Zz iO (cI z)))) (bF ((!!bif (cI z)
 == iZ then true else Zz (8 : Int) (cI z)) || zq false q10) (zw (bif bif (cI z) == iZ then true else Zz (8 : Int) (cI z) then true else bif Zz iO (cI z) then (cI (UInt8.toNat (gD s 0 (0 : UInt8)))) == (48 : Int) else false) (3 = lN [AV.junk, AV.junk, AV.junk] ∧ ((True ∧ kI ∧ iZ = zG s) ∧ bA #[] = zK s) ∧ false = ZV s) (bF (DB.db (iZ ≤ (cI z) ∧ (cI z) ≤ (lZ s))) (3 = lN [AV.junk, AV.junk, AV.junk] ∧ ((True ∧
 kI ∧ (cI (zi (List.take z s))) = zG s) ∧ List.drop (Int.toNat (cI z)) s = zK s) ∧ true = ZV s))))))))))))))))))))))))) := by
 delta bF dK bA cI kI lZ lN gD iZ iO
 dsimp only
 intro hb
 simp only [sS, dS, xU, Pa]
 have dg2 : ∀ c : UInt8, (leB 48 (c.toNat : Int) && leB (c.toNat : Int) 57) = ZZ c := fun c => by rw [Bool.eq_iff_iff, Bool.and_eq_true, ZY, ZY, yy]; omega
 simp only [Bool.and_assoc, dg2]
 refine ⟨⟨0, ⟨Nat.zero_le _, Nat.zero_le _, fun i hi => absurd hi (Nat.not_lt_zero _)⟩, rfl, rfl⟩, fun z ⟨z1, z2, z3⟩ => ⟨fun h => ?_, fun h => ?_, zT.2 ⟨fun c => ?_, fun c => ⟨fun h => ?_, ?_⟩⟩⟩⟩
 ·rw [Bool.and_eq_true] at h; have := (zm _ _).1 h.1; omega
 ·rw [Bool.and_eq_true] at h; have := (zm _ _).1 h.1; omega
 ·rw [Bool.and_eq_true, Bool.and_eq_true] at c
  obtain ⟨c1, c2, c3⟩ := c
  have c1 : z < s.length := by have := (zm _ _).1 c1; omega
  have c2 : z ≤ 8 := by have := (ZY _ _).1 c2; omega
  have hd := yy.1 c3
  have hst : (zi (s.take (z + 1)) : Int) = 10 * (zi (s.take z) : Int) + (((s.getD z 0).toNat : Int) - 48) := by
   rw [U6 (by omega), XL]
   unfold WS
   omega
  have b1 : zi (s.take z) < 10 ^ 9 := by
   have h1 := Xr (l := s.take z) (List.all_eq_true.2 (wq z1 z3))
   exact Nat.lt_of_lt_of_le h1 (Nat.pow_le_pow_right (by omega) (by rw [List.length_take]; omega))
  rw [show 10 ^ 9 = 1000000000 from by decide] at b1
  refine ⟨⟨by omega, by omega⟩, ⟨by omega, by omega⟩, ⟨by omega, by omega⟩, ⟨by omega, by omega⟩, ⟨by omega, by omega⟩, ⟨by omega, by omega⟩, z + 1, ⟨⟨by omega, by omega, fun i hi => ?_⟩, by omega⟩, hst.symm, by omega⟩
  by_cases e : i = z
  ·rw [e]; exact c3
  ·exact z3 i (by omega)
 ·rw [Bool.and_eq_true, zm] at h; exact ⟨by omega, by omega⟩
 ·have h3 : z = s.length ∨ 8 < z ∨ ZZ (s.getD z 0) = false := by
   by_cases q1 : z = s.length
   ·exact .inl q1
   by_cases q2 : 8 < z
   ·exact .inr (.inl q2)
   refine .inr (.inr ?_)
   have q3 : Zz (z : Int) (s.length : Int) = true := (zm _ _).2 (by omega)
   have q4 : leB (z : Int) 8 = true := (ZY _ _).2 (by omega)
   rw [q3, q4] at c
   simpa using c
  obtain ⟨k1, k2⟩ := SS z1 z3 h3
  refine vv (by cases ((z : Int) == 0 || Zz 8 (z : Int)) <;> cases Zz 1 (z : Int) <;> rfl) ?_
  unfold zG zK
  refine zT.2 ⟨fun c2 => ?_, fun c2 => ?_⟩
  ·rw [c2] at k1
   rw [k1]
   exact ⟨rfl, ⟨rfl, rfl⟩, rfl⟩
  ·rw [c2] at k1
   have ht := k2 k1
   rw [k1, ht, List.length_take, show min z s.length = z by omega]
   exact ⟨⟨by omega, by omega⟩, rfl, ⟨rfl, rfl⟩, rfl⟩
theorem rE (s : List UInt8) (hl : s.length ≤ 9223372036854775807) : zV Tryz.prog [] 110 [.str s] (.tup 3 (zY [.i (zG s), .str (zK s), .b (ZV s)])) :=
 zW (T := T0) (an := Sn s) mixed zN (Eq.mp (by kernel_rfl) (Sq s hl))
theorem Rr : zn Tryz.prog [] 110 Vo := by
 intro xs ps r h hp
 unfold Vo at h
 split at h
 ·skip
  rename_i s
  cases h
  obtain ⟨q0, -⟩ := Zr hp
  exact weaken (ys := [.str s]) ⟨zX _, trivial⟩ (rE s q0)
 ·cases h
def xZ (x y : Int) : Int := bif leB 0 x && leB 0 y then (Nat.gcd x.toNat y.toNat : Int) else 0
def rT (x y : Int) : Z4 :=
 .two .auto (.two (.one (.loop Zg (fun σ z => [(0, .i z.x), (1, .i z.y)]) (fun σ z => []) 0 (fun σ z => 0 ≤ z.x ∧ 0 ≤ z.y ∧ z.x ≤ 9223372036854775807 ∧ z.y ≤ 9223372036854775807 ∧ Nat.gcd z.x.toNat z.y.toNat = Nat.gcd x.toNat y.toNat) (fun σ z => z.y.toNat) .auto)) .auto)
def VZ : List AV → Option (List zO × AV)
 | [.v (.int .i64 x), .v (.int .i64 y)] => some ([.p (0 ≤ x ∧ x ≤ 9223372036854775807), .p (0 ≤ y ∧ y ≤ 9223372036854775807)], .i (xZ x y))
 | _ => none
theorem RG (x : Int) (y : Int) (h1 : 0 ≤ x ∧ x ≤ 9223372036854775807) (h2 : 0 ≤ y ∧ y ≤ 9223372036854775807) :
 Zw [aI x, aI y] → (∃ (z : Zg), ((iZ ≤ Zg.x z ∧ iZ ≤ Zg.y z ∧ Zg.x z ≤ iX ∧ Zg.y z ≤ iX ∧ Nat.gcd (Int.toNat (Zg.x z)) (Int.toNat (Zg.y z)) = Nat.gcd (Int.toNat x) (Int.toNat y)) ∧ (kI ∧ x = Zg.x z) ∧ kI ∧ y = Zg.y z) ∧ True) ∧ ∀ (z : Zg), iZ ≤ Zg.x z ∧ iZ ≤ Zg.y z ∧ Zg.x z ≤ iX ∧ Zg.y z ≤ iX ∧ Nat.gcd (Int.toNat (Zg.x z)) (Int.toNat (Zg.y z)) = Nat.gcd (Int.toNat x) (Int.toNat y) →
 zw (Zg.y z != iZ) (bF (DB.db (Zg.y z ≠ iZ)) (∃ (z' : Zg), (((iZ ≤ Zg.x z' ∧ iZ ≤ Zg.y z' ∧ Zg.x z' ≤ iX ∧ Zg.y z' ≤ iX ∧ Nat.gcd (Int.toNat (Zg.x z')) (Int.toNat (Zg.y z')) = Nat.gcd (Int.toNat x) (Int.toNat y)) ∧ Int.toNat (Zg.y z') < Int.toNat (Zg.y z)) ∧ (kI ∧ Zg.y z = Zg.x z') ∧ kI ∧ Int.tmod (Zg.x z) (Zg.y z) = Zg.y z') ∧ True)) (kI ∧ Zg.x z = xZ x y) := by
 delta bF kI iZ iX aI
 intro hb
 simp only [sS, dS]
 have hO : xZ x y = (Nat.gcd x.toNat y.toNat : Int) := by unfold xZ; rw [(ZY _ _).2 h1.1, (ZY _ _).2 h2.1]; rfl
 rw [hO]
 refine ⟨⟨⟨x, y⟩, ⟨h1.1, h2.1, h1.2, h2.2, rfl⟩, rfl, rfl⟩, fun z ⟨z1, z2, z3, z4, z5⟩ => ⟨fun hy => ?_, fun hy => ?_⟩⟩
 ·generalize z.x = zx at *
  generalize z.y = zy at *
  obtain ⟨X, rfl⟩ : ∃ X : Nat, zx = X := ⟨zx.toNat, by omega⟩
  obtain ⟨Y, rfl⟩ : ∃ Y : Nat, zy = Y := ⟨zy.toNat, by omega⟩
  have tm : (X : Int).tmod (Y : Int) = ((X % Y : Nat) : Int) := by rw [Int.tmod_eq_emod_of_nonneg (by omega)]; omega
  have hm : X % Y < Y := Nat.mod_lt _ (by omega)
  refine ⟨hy, ⟨Y, ((X % Y : Nat) : Int)⟩, ⟨⟨by simp only; omega, by simp only; omega, by simp only; omega, by simp only; omega, ?_⟩, by simp only; omega⟩, rfl, tm⟩
  simp only [Int.toNat_natCast] at z5 ⊢
  rw [← uT (by omega)]; exact z5
 ·rw [hy] at z5
  simp only [Int.toNat_zero, Nat.gcd_zero_right] at z5
  omega
theorem Qe (x : Int) (y : Int) (h1 : 0 ≤ x ∧ x ≤ 9223372036854775807) (h2 : 0 ≤ y ∧ y ≤ 9223372036854775807) : zV Tryz.prog [] 111 [.i x, .i y] (.i (xZ x y)) :=
 zW (T := T0) (an := rT x y) mixed zN (Eq.mp (by kernel_rfl) (RG x y h1 h2))
theorem sF : zn Tryz.prog [] 111 VZ := by
 intro xs ps r h hp
 unfold VZ at h
 split at h
 ·skip
  rename_i x y
  cases h
  obtain ⟨q0, q1, -⟩ := Zr hp
  exact weaken (ys := [.i x, .i y]) ⟨zX _, zX _, trivial⟩ (Qe x y q0 q1)
 ·cases h
end Go.Te
