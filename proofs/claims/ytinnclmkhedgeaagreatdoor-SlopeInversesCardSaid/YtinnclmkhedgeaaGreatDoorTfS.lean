/- Contracts of the library at this program, laid out of the kit's shelf by its own tools, reduced. -/
import Derived.Shelf.Small.Bits
import Derived.Shelf.Strconv.Atoi
import Derived.Shelf.Strconv.Itoa3
import Derived.Shelf.Strings.Search2
import Derived.Shelf.Strings.Prefix
import Derived.Shelf.LaysM
import Derived.Test.YtinnclmkhedgeaaGreatDoorProg
import Derived.Test.YtinnclmkhedgeaaGreatDoorArA
import Derived.Shelf.Strings.SlTrimAscii
import Derived.Test.YtinnclmkhedgeaaGreatDoorSxS
set_option linter.unusedSimpArgs false
set_option linter.unusedVariables false
namespace Go.Proofs
open Go.Shelf
def Tryz.lays219_ren : Go.Shelf.Ren := ⟨fun | 219 => 271 | 217 => 288 | 225 => 289 | 224 => 290 | 267 => 291 | 266 => 300 | 314 => 301 | n => n, fun | 9 => 9 | 3 => 3 | 4 => 4 | 5 => 5 | 46 => 152 | 146 => 276 | 51 => 208 | n => n, fun | 1 => 5 | n => n⟩
theorem Tryz.lays219 : Go.Proofs.Lays.n219 Tryz.prog Tryz.lays219_ren := {
 mixed := by kernel_rfl
 f217 := Tryz.func288.trans (congrArg some (by kernel_rfl))
 f219 := Tryz.func271.trans (congrArg some (by kernel_rfl))
 f224 := Tryz.func290.trans (congrArg some (by kernel_rfl))
 f225 := Tryz.func289.trans (congrArg some (by kernel_rfl))
 f266 := Tryz.func300.trans (congrArg some (by kernel_rfl))
 f267 := Tryz.func291.trans (congrArg some (by kernel_rfl))
 f314 := Tryz.func301.trans (congrArg some (by kernel_rfl))
 t3 := Tryz.underlying3
 a3 := Tryz.isAgg3
 z3 := Tryz.sizeOf3
 v3 := Tryz.zeroValue3
 t4 := Tryz.underlying4
 a4 := Tryz.isAgg4
 z4 := Tryz.sizeOf4
 v4 := Tryz.zeroValue4
 t5 := Tryz.underlying5
 a5 := Tryz.isAgg5
 z5 := Tryz.sizeOf5
 v5 := Tryz.zeroValue5
 t9 := Tryz.underlying9
 a9 := Tryz.isAgg9
 z9 := Tryz.sizeOf9
 v9 := Tryz.zeroValue9
 t46 := Tryz.underlying152
 a46 := Tryz.isAgg152
 z46 := Tryz.sizeOf152
 v46 := Tryz.zeroValue152
 t51 := Tryz.underlying208
 a51 := Tryz.isAgg208
 z51 := Tryz.sizeOf208
 v51 := Tryz.zeroValue208
 t146 := Tryz.underlying276
 a146 := Tryz.isAgg276
 z146 := Tryz.sizeOf276
 v146 := Tryz.zeroValue276
 g1 := by kernel_rfl }
open Go.RowKit Go.Lib in
theorem Tryz.stringslite_Index_one (s : ByteArray) (c : UInt8) (w : World) :
  Calls Tryz.prog 271 #[.string s, .string ⟨#[c]⟩] w fun e w' => e = .returned (.int .i64 (Lib.indexByte s.data.toList c)) ∧ w' = w := Any.stringslite_Index_one Tryz.lays219 s c w
def Tryz.laysM171_ren : Go.Shelf.Ren := ⟨fun | 171 => 78 | 243 => 130 | 246 => 180 | 283 => 231 | 284 => 232 | 285 => 233 | 286 => 234 | 129 => 196 | 317 => 272 | 318 => 273 | 319 => 274 | 320 => 275 | 337 => 292 | 338 => 293 | n => n, fun | 3 => 3 | 9 => 9 | 2 => 2 | 4 => 4 | 171 => 241 | 0 => 0 | 53 => 210 | 37 => 218 | 5 => 5 | 173 => 243 | 212 => 272 | 51 => 208 | 20 => 20 | 213 => 273 | 46 => 152 | 232 => 299 | 233 => 300 | n => n, fun | 17 => 2 | 18 => 6 | 19 => 7 | n => n⟩
theorem Tryz.laysM171 : Go.Proofs.LaysM.n171 Tryz.prog Tryz.laysM171_ren := {
 mixed := by kernel_rfl
 f129 := Tryz.func196.trans (congrArg some (by kernel_rfl))
 f171 := Tryz.func78.trans (congrArg some (by kernel_rfl))
 f243 := Tryz.func130.trans (congrArg some (by kernel_rfl))
 f246 := Tryz.func180.trans (congrArg some (by kernel_rfl))
 f283 := Tryz.func231.trans (congrArg some (by kernel_rfl))
 f284 := Tryz.func232.trans (congrArg some (by kernel_rfl))
 f285 := Tryz.func233.trans (congrArg some (by kernel_rfl))
 f286 := Tryz.func234.trans (congrArg some (by kernel_rfl))
 f317 := Tryz.func272.trans (congrArg some (by kernel_rfl))
 f318 := Tryz.func273.trans (congrArg some (by kernel_rfl))
 f319 := Tryz.func274.trans (congrArg some (by kernel_rfl))
 f320 := Tryz.func275.trans (congrArg some (by kernel_rfl))
 f337 := Tryz.func292.trans (congrArg some (by kernel_rfl))
 f338 := Tryz.func293.trans (congrArg some (by kernel_rfl))
 t0 := Tryz.underlying0
 a0 := Tryz.isAgg0
 z0 := Tryz.sizeOf0
 v0 := Tryz.zeroValue0
 t2 := Tryz.underlying2
 a2 := Tryz.isAgg2
 z2 := Tryz.sizeOf2
 v2 := Tryz.zeroValue2
 t3 := Tryz.underlying3
 a3 := Tryz.isAgg3
 z3 := Tryz.sizeOf3
 v3 := Tryz.zeroValue3
 t4 := Tryz.underlying4
 a4 := Tryz.isAgg4
 z4 := Tryz.sizeOf4
 v4 := Tryz.zeroValue4
 t5 := Tryz.underlying5
 a5 := Tryz.isAgg5
 z5 := Tryz.sizeOf5
 v5 := Tryz.zeroValue5
 t9 := Tryz.underlying9
 a9 := Tryz.isAgg9
 z9 := Tryz.sizeOf9
 v9 := Tryz.zeroValue9
 t20 := Tryz.underlying20
 a20 := Tryz.isAgg20
 z20 := Tryz.sizeOf20
 v20 := Tryz.zeroValue20
 t37 := Tryz.underlying218
 a37 := Tryz.isAgg218
 z37 := Tryz.sizeOf218
 v37 := Tryz.zeroValue218
 t46 := Tryz.underlying152
 a46 := Tryz.isAgg152
 z46 := Tryz.sizeOf152
 v46 := Tryz.zeroValue152
 t51 := Tryz.underlying208
 a51 := Tryz.isAgg208
 z51 := Tryz.sizeOf208
 v51 := Tryz.zeroValue208
 t53 := Tryz.underlying210
 a53 := Tryz.isAgg210
 z53 := Tryz.sizeOf210
 v53 := Tryz.zeroValue210
 t171 := Tryz.underlying241
 a171 := Tryz.isAgg241
 z171 := Tryz.sizeOf241
 v171 := Tryz.zeroValue241
 t173 := Tryz.underlying243
 a173 := Tryz.isAgg243
 z173 := Tryz.sizeOf243
 v173 := Tryz.zeroValue243
 t212 := Tryz.underlying272
 a212 := Tryz.isAgg272
 z212 := Tryz.sizeOf272
 v212 := Tryz.zeroValue272
 t213 := Tryz.underlying273
 a213 := Tryz.isAgg273
 z213 := Tryz.sizeOf273
 t232 := Tryz.underlying299
 a232 := Tryz.isAgg299
 z232 := Tryz.sizeOf299
 v232 := Tryz.zeroValue299
 t233 := Tryz.underlying300
 a233 := Tryz.isAgg300
 z233 := Tryz.sizeOf300
 v233 := Tryz.zeroValue300
 g17 := by kernel_rfl
 g18 := by kernel_rfl
 g19 := by kernel_rfl
 i0 := by kernel_rfl
 i2 := by kernel_rfl
 i3 := by kernel_rfl
 i4 := by kernel_rfl
 i5 := by kernel_rfl
 i9 := by kernel_rfl
 i20 := by kernel_rfl
 i37 := by kernel_rfl
 i46 := by kernel_rfl
 i51 := by kernel_rfl
 i53 := by kernel_rfl
 i171 := by kernel_rfl
 i173 := by kernel_rfl
 i212 := by kernel_rfl
 i232 := by kernel_rfl
 i233 := by kernel_rfl
 m17 := by kernel_rfl
 m18 := by kernel_rfl
 m19 := by kernel_rfl }
open Go.RowKit Go.Sort Go.Lib in
theorem Tryz.strconv_Itoa (n : Int) (h0 : -9223372036854775808 ≤ n) (h1 : n ≤ 9223372036854775807) (w : World) (htab : Lib.TabIs Tryz.prog w "internal/strconv.uint64pow10" .u64 Lib.pow10Tab) :
  Calls Tryz.prog 78 #[.int .i64 n] w fun e w' => e = .returned (.string ⟨(Lib.itoa n).toArray⟩) ∧ ∃ k os, w' = grow (w.drewN k) os := Any.strconv_Itoa Tryz.laysM171 n h0 h1 w htab
def Tryz.lays160_ren : Go.Shelf.Ren := ⟨fun | 160 => 201 | 232 => 248 | 231 => 247 | 227 => 249 | 234 => 251 | 233 => 250 | 236 => 253 | 235 => 252 | 228 => 280 | 271 => 283 | 151 => 282 | 197 => 281 | 120 => 297 | 152 => 296 | 260 => 295 | 137 => 302 | 119 => 303 | 224 => 290 | 225 => 289 | 217 => 288 | 266 => 300 | n => n, fun | 9 => 9 | 4 => 4 | 3 => 3 | 5 => 5 | 117 => 260 | 116 => 259 | 0 => 0 | 124 => 263 | 21 => 21 | 105 => 281 | 46 => 152 | 119 => 301 | 139 => 304 | 138 => 303 | n => n, fun | 3 => 8 | 4 => 9 | n => n⟩
theorem Tryz.lays160 : Go.Proofs.Lays.n160 Tryz.prog Tryz.lays160_ren := {
 mixed := by kernel_rfl
 f119 := Tryz.func303.trans (congrArg some (by kernel_rfl))
 f120 := Tryz.func297.trans (congrArg some (by kernel_rfl))
 f137 := Tryz.func302.trans (congrArg some (by kernel_rfl))
 f151 := Tryz.func282.trans (congrArg some (by kernel_rfl))
 f152 := Tryz.func296.trans (congrArg some (by kernel_rfl))
 f160 := Tryz.func201.trans (congrArg some (by kernel_rfl))
 f197 := Tryz.func281.trans (congrArg some (by kernel_rfl))
 f217 := Tryz.func288.trans (congrArg some (by kernel_rfl))
 f224 := Tryz.func290.trans (congrArg some (by kernel_rfl))
 f225 := Tryz.func289.trans (congrArg some (by kernel_rfl))
 f227 := Tryz.func249.trans (congrArg some (by kernel_rfl))
 f228 := Tryz.func280.trans (congrArg some (by kernel_rfl))
 f231 := Tryz.func247.trans (congrArg some (by kernel_rfl))
 f232 := Tryz.func248.trans (congrArg some (by kernel_rfl))
 f233 := Tryz.func250.trans (congrArg some (by kernel_rfl))
 f234 := Tryz.func251.trans (congrArg some (by kernel_rfl))
 f235 := Tryz.func252.trans (congrArg some (by kernel_rfl))
 f236 := Tryz.func253.trans (congrArg some (by kernel_rfl))
 f260 := Tryz.func295.trans (congrArg some (by kernel_rfl))
 f266 := Tryz.func300.trans (congrArg some (by kernel_rfl))
 f271 := Tryz.func283.trans (congrArg some (by kernel_rfl))
 t0 := Tryz.underlying0
 a0 := Tryz.isAgg0
 z0 := Tryz.sizeOf0
 v0 := Tryz.zeroValue0
 t3 := Tryz.underlying3
 a3 := Tryz.isAgg3
 z3 := Tryz.sizeOf3
 v3 := Tryz.zeroValue3
 t4 := Tryz.underlying4
 a4 := Tryz.isAgg4
 z4 := Tryz.sizeOf4
 v4 := Tryz.zeroValue4
 t5 := Tryz.underlying5
 a5 := Tryz.isAgg5
 z5 := Tryz.sizeOf5
 v5 := Tryz.zeroValue5
 t9 := Tryz.underlying9
 a9 := Tryz.isAgg9
 z9 := Tryz.sizeOf9
 v9 := Tryz.zeroValue9
 t21 := Tryz.underlying21
 a21 := Tryz.isAgg21
 z21 := Tryz.sizeOf21
 v21 := Tryz.zeroValue21
 t46 := Tryz.underlying152
 a46 := Tryz.isAgg152
 z46 := Tryz.sizeOf152
 v46 := Tryz.zeroValue152
 t105 := Tryz.underlying281
 a105 := Tryz.isAgg281
 z105 := Tryz.sizeOf281
 v105 := Tryz.zeroValue281
 t116 := Tryz.underlying259
 a116 := Tryz.isAgg259
 z116 := Tryz.sizeOf259
 t117 := Tryz.underlying260
 a117 := Tryz.isAgg260
 z117 := Tryz.sizeOf260
 v117 := Tryz.zeroValue260
 t119 := Tryz.underlying301
 a119 := Tryz.isAgg301
 z119 := Tryz.sizeOf301
 t124 := Tryz.underlying263
 a124 := Tryz.isAgg263
 z124 := Tryz.sizeOf263
 v124 := Tryz.zeroValue263
 t138 := Tryz.underlying303
 a138 := Tryz.isAgg303
 z138 := Tryz.sizeOf303
 v138 := Tryz.zeroValue303
 t139 := Tryz.underlying304
 a139 := Tryz.isAgg304
 z139 := Tryz.sizeOf304
 v139 := Tryz.zeroValue304
 g3 := by kernel_rfl
 g4 := by kernel_rfl }
def Tryz.lays172_ren : Go.Shelf.Ren := ⟨fun | 172 => 143 | 244 => 202 | 245 => 203 | 247 => 254 | 279 => 255 | 280 => 256 | 281 => 257 | 282 => 258 | 287 => 284 | 316 => 285 | 171 => 78 | 205 => 286 | 321 => 298 | 322 => 299 | 243 => 130 | 246 => 180 | 283 => 231 | 284 => 232 | 285 => 233 | 286 => 234 | 129 => 196 | 317 => 272 | 318 => 273 | 319 => 274 | 320 => 275 | 337 => 292 | 338 => 293 | n => n, fun | 9 => 9 | 3 => 3 | 75 => 160 | 76 => 161 | 4 => 4 | 5 => 5 | 167 => 264 | 37 => 218 | 0 => 0 | 85 => 265 | 2 => 2 | 168 => 267 | 53 => 210 | 175 => 284 | 46 => 152 | 210 => 287 | 127 => 270 | 145 => 297 | 143 => 295 | 21 => 21 | 171 => 241 | 173 => 243 | 212 => 272 | 51 => 208 | 20 => 20 | 213 => 273 | 232 => 299 | 233 => 300 | 80 => 223 | n => n, fun | 15 => 3 | 16 => 4 | 17 => 2 | 18 => 6 | 19 => 7 | n => n⟩
theorem Tryz.lays172 : Go.Proofs.Lays.n172 Tryz.prog Tryz.lays172_ren := {
 mixed := by kernel_rfl
 f129 := Tryz.func196.trans (congrArg some (by kernel_rfl))
 f171 := Tryz.func78.trans (congrArg some (by kernel_rfl))
 f172 := Tryz.func143.trans (congrArg some (by kernel_rfl))
 f205 := Tryz.func286.trans (congrArg some (by kernel_rfl))
 f243 := Tryz.func130.trans (congrArg some (by kernel_rfl))
 f244 := Tryz.func202.trans (congrArg some (by kernel_rfl))
 f245 := Tryz.func203.trans (congrArg some (by kernel_rfl))
 f246 := Tryz.func180.trans (congrArg some (by kernel_rfl))
 f247 := Tryz.func254.trans (congrArg some (by kernel_rfl))
 f279 := Tryz.func255.trans (congrArg some (by kernel_rfl))
 f280 := Tryz.func256.trans (congrArg some (by kernel_rfl))
 f281 := Tryz.func257.trans (congrArg some (by kernel_rfl))
 f282 := Tryz.func258.trans (congrArg some (by kernel_rfl))
 f283 := Tryz.func231.trans (congrArg some (by kernel_rfl))
 f284 := Tryz.func232.trans (congrArg some (by kernel_rfl))
 f285 := Tryz.func233.trans (congrArg some (by kernel_rfl))
 f286 := Tryz.func234.trans (congrArg some (by kernel_rfl))
 f287 := Tryz.func284.trans (congrArg some (by kernel_rfl))
 f316 := Tryz.func285.trans (congrArg some (by kernel_rfl))
 f317 := Tryz.func272.trans (congrArg some (by kernel_rfl))
 f318 := Tryz.func273.trans (congrArg some (by kernel_rfl))
 f319 := Tryz.func274.trans (congrArg some (by kernel_rfl))
 f320 := Tryz.func275.trans (congrArg some (by kernel_rfl))
 f321 := Tryz.func298.trans (congrArg some (by kernel_rfl))
 f322 := Tryz.func299.trans (congrArg some (by kernel_rfl))
 f337 := Tryz.func292.trans (congrArg some (by kernel_rfl))
 f338 := Tryz.func293.trans (congrArg some (by kernel_rfl))
 t0 := Tryz.underlying0
 a0 := Tryz.isAgg0
 z0 := Tryz.sizeOf0
 v0 := Tryz.zeroValue0
 t2 := Tryz.underlying2
 a2 := Tryz.isAgg2
 z2 := Tryz.sizeOf2
 v2 := Tryz.zeroValue2
 t3 := Tryz.underlying3
 a3 := Tryz.isAgg3
 z3 := Tryz.sizeOf3
 v3 := Tryz.zeroValue3
 t4 := Tryz.underlying4
 a4 := Tryz.isAgg4
 z4 := Tryz.sizeOf4
 v4 := Tryz.zeroValue4
 t5 := Tryz.underlying5
 a5 := Tryz.isAgg5
 z5 := Tryz.sizeOf5
 v5 := Tryz.zeroValue5
 t9 := Tryz.underlying9
 a9 := Tryz.isAgg9
 z9 := Tryz.sizeOf9
 v9 := Tryz.zeroValue9
 t20 := Tryz.underlying20
 a20 := Tryz.isAgg20
 z20 := Tryz.sizeOf20
 v20 := Tryz.zeroValue20
 t21 := Tryz.underlying21
 a21 := Tryz.isAgg21
 z21 := Tryz.sizeOf21
 v21 := Tryz.zeroValue21
 t37 := Tryz.underlying218
 a37 := Tryz.isAgg218
 z37 := Tryz.sizeOf218
 v37 := Tryz.zeroValue218
 t46 := Tryz.underlying152
 a46 := Tryz.isAgg152
 z46 := Tryz.sizeOf152
 v46 := Tryz.zeroValue152
 t51 := Tryz.underlying208
 a51 := Tryz.isAgg208
 z51 := Tryz.sizeOf208
 v51 := Tryz.zeroValue208
 t53 := Tryz.underlying210
 a53 := Tryz.isAgg210
 z53 := Tryz.sizeOf210
 v53 := Tryz.zeroValue210
 t75 := Tryz.underlying160
 a75 := Tryz.isAgg160
 z75 := Tryz.sizeOf160
 v75 := Tryz.zeroValue160
 t76 := Tryz.underlying161
 a76 := Tryz.isAgg161
 z76 := Tryz.sizeOf161
 v76 := Tryz.zeroValue161
 t85 := Tryz.underlying265
 a85 := Tryz.isAgg265
 z85 := Tryz.sizeOf265
 v85 := Tryz.zeroValue265
 t127 := Tryz.underlying270
 a127 := Tryz.isAgg270
 z127 := Tryz.sizeOf270
 v127 := Tryz.zeroValue270
 t143 := Tryz.underlying295
 a143 := Tryz.isAgg295
 z143 := Tryz.sizeOf295
 v143 := Tryz.zeroValue295
 t145 := Tryz.underlying297
 a145 := Tryz.isAgg297
 z145 := Tryz.sizeOf297
 v145 := Tryz.zeroValue297
 t167 := Tryz.underlying264
 a167 := Tryz.isAgg264
 z167 := Tryz.sizeOf264
 v167 := Tryz.zeroValue264
 t168 := Tryz.underlying267
 a168 := Tryz.isAgg267
 z168 := Tryz.sizeOf267
 v168 := Tryz.zeroValue267
 t171 := Tryz.underlying241
 a171 := Tryz.isAgg241
 z171 := Tryz.sizeOf241
 v171 := Tryz.zeroValue241
 t173 := Tryz.underlying243
 a173 := Tryz.isAgg243
 z173 := Tryz.sizeOf243
 v173 := Tryz.zeroValue243
 t175 := Tryz.underlying284
 a175 := Tryz.isAgg284
 z175 := Tryz.sizeOf284
 v175 := Tryz.zeroValue284
 t210 := Tryz.underlying287
 a210 := Tryz.isAgg287
 z210 := Tryz.sizeOf287
 v210 := Tryz.zeroValue287
 t212 := Tryz.underlying272
 a212 := Tryz.isAgg272
 z212 := Tryz.sizeOf272
 v212 := Tryz.zeroValue272
 t213 := Tryz.underlying273
 a213 := Tryz.isAgg273
 z213 := Tryz.sizeOf273
 t232 := Tryz.underlying299
 a232 := Tryz.isAgg299
 z232 := Tryz.sizeOf299
 v232 := Tryz.zeroValue299
 t233 := Tryz.underlying300
 a233 := Tryz.isAgg300
 z233 := Tryz.sizeOf300
 v233 := Tryz.zeroValue300
 g15 := by kernel_rfl
 g16 := by kernel_rfl
 g17 := by kernel_rfl
 g18 := by kernel_rfl
 g19 := by kernel_rfl }
open Go.RowKit in
theorem Tryz.strconv_Atoi (s : ByteArray) (n : Int) (hl : s.size ≤ 18) (h : Lib.atoi s.data.toList = some n) (w : World) :
  Calls Tryz.prog 143 #[.string s] w fun e w' => e = .returned (.tuple #[.int .i64 n, .nilIface]) ∧ ∃ t, w' = Lib.bytesWorld w 5 t := Any.strconv_Atoi Tryz.lays172 s n hl h w
def Tryz.lays206_ren : Go.Shelf.Ren := ⟨fun | 206 => 131 | n => n, fun | 9 => 9 | 4 => 4 | 3 => 3 | n => n, fun | n => n⟩
theorem Tryz.lays206 : Go.Proofs.Lays.n206 Tryz.prog Tryz.lays206_ren := {
 mixed := by kernel_rfl
 f206 := Tryz.func131.trans (congrArg some (by kernel_rfl))
 t3 := Tryz.underlying3
 a3 := Tryz.isAgg3
 z3 := Tryz.sizeOf3
 v3 := Tryz.zeroValue3
 t4 := Tryz.underlying4
 a4 := Tryz.isAgg4
 z4 := Tryz.sizeOf4
 v4 := Tryz.zeroValue4
 t9 := Tryz.underlying9
 a9 := Tryz.isAgg9
 z9 := Tryz.sizeOf9
 v9 := Tryz.zeroValue9 }
open Go.RowKit Go.Lib in
theorem Tryz.stringslite_HasPrefix (s p : ByteArray) (w : World) :
  Calls Tryz.prog 131 #[.string s, .string p] w fun e w' => e = .returned (.bool (Lib.hasPrefix s.data.toList p.data.toList)) ∧ w' = w := Any.stringslite_HasPrefix Tryz.lays206 s p w
def Tryz.lays125_ren : Go.Shelf.Ren := ⟨fun | 125 => 137 | 128 => 195 | 129 => 196 | n => n, fun | 46 => 152 | 3 => 3 | 51 => 208 | 53 => 210 | 4 => 4 | 5 => 5 | 9 => 9 | n => n, fun | n => n⟩
theorem Tryz.lays125 : Go.Proofs.Lays.n125 Tryz.prog Tryz.lays125_ren := {
 mixed := by kernel_rfl
 f125 := Tryz.func137.trans (congrArg some (by kernel_rfl))
 f128 := Tryz.func195.trans (congrArg some (by kernel_rfl))
 f129 := Tryz.func196.trans (congrArg some (by kernel_rfl))
 t3 := Tryz.underlying3
 a3 := Tryz.isAgg3
 z3 := Tryz.sizeOf3
 v3 := Tryz.zeroValue3
 t4 := Tryz.underlying4
 a4 := Tryz.isAgg4
 z4 := Tryz.sizeOf4
 v4 := Tryz.zeroValue4
 t5 := Tryz.underlying5
 a5 := Tryz.isAgg5
 z5 := Tryz.sizeOf5
 v5 := Tryz.zeroValue5
 t9 := Tryz.underlying9
 a9 := Tryz.isAgg9
 z9 := Tryz.sizeOf9
 v9 := Tryz.zeroValue9
 t46 := Tryz.underlying152
 a46 := Tryz.isAgg152
 z46 := Tryz.sizeOf152
 v46 := Tryz.zeroValue152
 t51 := Tryz.underlying208
 a51 := Tryz.isAgg208
 z51 := Tryz.sizeOf208
 v51 := Tryz.zeroValue208
 t53 := Tryz.underlying210
 a53 := Tryz.isAgg210
 z53 := Tryz.sizeOf210
 v53 := Tryz.zeroValue210 }
theorem Tryz.bits_Len (x : Int) (w : World) (h0 : 0 ≤ x) (h1 : x ≤ 18446744073709551615) :
  Calls Tryz.prog 137 #[.int .u64 x] w fun e w' => e = .returned (.int .i64 (Lib.bitLen x.toNat)) ∧ w' = w := Any.bits_Len Tryz.lays125 x w h0 h1
end Go.Proofs

namespace Go.Te
open Go Go.Sx Go.Proofs Go.Ar Go.RowKit
set_option maxRecDepth 100000
set_option maxHeartbeats 4000000
theorem mixed : Tryz.prog.follows .mixedOrders = true := by kernel_rfl
abbrev T0 : Tb := uY []
def V5 : List AV → Option (List zN × AV)
 | [.str s, .str [c]] => some ([], .i (Lib.indexByte s c))
 | _ => none
theorem sB : zP Tryz.prog [] 271 V5 := by
 intro xs ps r h hp
 unfold V5 at h
 split at h
 ·rename_i s c
  cases h
  refine ⟨enters_of Tryz.func271 (by kernel_rfl) rfl, fun w S vals hS hg hr => ?_⟩
  match vals, hr with
  | [v, v2], ⟨hv, hv2, _⟩ =>
  obtain rfl := Zu hv
  obtain rfl := Zu hv2
  refine (Tryz.stringslite_Index_one ⟨s.toArray⟩ c w).mono ?_
  rintro e w' ⟨rfl, rfl⟩
  exact ⟨⟨Below.refl _ _, Nat.le_refl _⟩, _, rfl, .v _⟩
 ·cases h
theorem zu.mono {P : Program} {G : List (Nat × Obj)} {f : FuncId} {xs : List AV} {r : AV} (h : zu P [] f xs r) : zu P G f xs r :=
 ⟨h.1, fun w S vals hS _ hr => h.2 w S vals hS (fun b o hbo => by cases hbo) hr⟩
theorem yZ.mono {P : Program} {G : List (Nat × Obj)} {f : FuncId} {xs : List AV} {t : TypeId} {sz len : Nat} {els : Nat → Nat → AV} (h : yZ P [] f xs t sz len els) : yZ P G f xs t sz len els :=
 ⟨h.1, fun w S vals hS _ hr => h.2 w S vals hS (fun b o hbo => by cases hbo) hr⟩
theorem zP.mono {P : Program} {G : List (Nat × Obj)} {f : FuncId} {t : List AV → Option (List zN × AV)} (h : zP P [] f t) : zP P G f t := fun xs ps r e hp => zu.mono (h xs ps r e hp)
theorem tV.mono {P : Program} {G : List (Nat × Obj)} {f : FuncId} {t : List AV → Option (List zN × TypeId × Nat × Nat × (Nat → Nat → AV))} (h : tV P [] f t) : tV P G f t := fun xs ps ty sz len els e hp => yZ.mono (h xs ps ty sz len els e hp)
def zQ : Array Value := #[.string ⟨#[50]⟩, .string ⟨#[51]⟩, .string ⟨#[53]⟩, .string ⟨#[55]⟩, .string ⟨#[49, 49]⟩, .string ⟨#[49, 51]⟩, .string ⟨#[49, 55]⟩, .string ⟨#[49, 57]⟩, .string ⟨#[50, 51]⟩, .string ⟨#[50, 57]⟩, .string ⟨#[51, 49]⟩, .string ⟨#[51, 55]⟩, .string ⟨#[52, 49]⟩, .string ⟨#[52, 51]⟩, .string ⟨#[52, 55]⟩, .string ⟨#[53, 51]⟩, .string ⟨#[53, 57]⟩, .string ⟨#[54, 49]⟩, .string ⟨#[54, 55]⟩, .string ⟨#[55, 49]⟩, .string ⟨#[55, 51]⟩, .string ⟨#[55, 57]⟩, .string ⟨#[56, 51]⟩, .string ⟨#[56, 57]⟩, .string ⟨#[57, 55]⟩]
def zL (G : List (Nat × Obj)) : Prop :=
 (∃ g t fr, Tryz.prog.globalNamed "internal/strconv.uint64pow10" = some g ∧ (g, Obj.cells (Lib.pow10Tab.map fun z => Value.int .u64 z).toArray t fr) ∈ G) ∧
 ∃ t fr G', G = (1, Obj.cells zQ t fr) :: G'
def UC : List AV → Option (List zN × AV)
 | [.v (.int .i64 n)] => some ([.p (YT .i64 n)], .str (Lib.itoa n))
 | _ => none
theorem pI {G : List (Nat × Obj)} (hG : zL G) : zP Tryz.prog G 78 UC := by
 intro xs ps r h hp
 unfold UC at h
 split at h
 ·rename_i n
  cases h
  have hn : YT .i64 n := hp _ List.mem_cons_self
  simp only [YT] at hn
  refine ⟨enters_of Tryz.func78 (by kernel_rfl) rfl, fun w S vals hS hg hr => ?_⟩
  match vals, hr with
  | [v], ⟨hv, _⟩ =>
  obtain rfl := zc hv
  obtain ⟨⟨g, t, fr, hname, hmem⟩, _⟩ := hG
  have htab : Lib.TabIs Tryz.prog w "internal/strconv.uint64pow10" .u64 Lib.pow10Tab := by
   unfold Lib.TabIs World.var?
   rw [hname]
   simp only [Option.bind_some, (hg _ _ hmem).2]
  refine (Tryz.strconv_Itoa n hn.1 hn.2 w htab).mono ?_
  rintro e w' ⟨rfl, k, os, rfl⟩
  exact ⟨⟨⟨rfl, rfl, rfl, by simp [Go.Sort.grow, World.drewN], fun b hb => by simp [Go.Sort.grow, World.drewN, Array.getElem?_append, hb]⟩, by simp [dn, Go.Sort.grow, World.drewN]⟩, _, rfl, .str _⟩
 ·cases h
noncomputable def PM (G : List (Nat × Obj)) : Tb := (uY G).plus 78 UC
theorem xi {G : List (Nat × Obj)} (hG : zL G) : zz Tryz.prog (PM G) := zz.plus zO (pI hG)
def Qw : List AV → Option (List zN × AV)
 | [.str s, .str p] => some ([], .b (Lib.hasPrefix s p))
 | _ => none
theorem oX : zP Tryz.prog [] 131 Qw := by
 intro xs ps r h hp
 unfold Qw at h
 split at h
 ·rename_i s p
  cases h
  refine ⟨enters_of Tryz.func131 (by kernel_rfl) rfl, fun w S vals hS hg hr => ?_⟩
  match vals, hr with
  | [v, v2], ⟨hv, hv2, _⟩ =>
  obtain rfl := Zu hv
  obtain rfl := Zu hv2
  refine (Tryz.stringslite_HasPrefix ⟨s.toArray⟩ ⟨p.toArray⟩ w).mono ?_
  rintro e w' ⟨rfl, rfl⟩
  exact ⟨⟨Below.refl _ _, Nat.le_refl _⟩, _, rfl, .v _⟩
 ·cases h
theorem tt (s : zK) : Lib.hasPrefix s [45] = zE s := by
 unfold Lib.hasPrefix zE
 match s with
 | [] => rfl
 | c :: r => simp [List.isPrefixOf, Bool.beq_comm]
noncomputable def P4 : Tb := (T0.plus 131 Qw).body Tryz.prog [(165, .auto), (204, .auto)]
theorem XG : zz Tryz.prog P4 := zz.body mixed (zz.plus zO oX) _
def YV (g : zK → AV) : List AV → Option (List zN × AV)
 | [.str s, .str p] => some ([.b (p == [45])], g s)
 | _ => none
theorem Uk {f : FuncId} {g : zK → AV} (hf : ∀ s : zK, zu Tryz.prog [] f [.str s, .str [45]] (g s)) : zP Tryz.prog [] f (YV g) := by
 intro xs ps r h hp
 unfold YV at h
 split at h
 ·rename_i s p
  cases h
  have q : (p == [45]) = true := hp _ List.mem_cons_self
  obtain rfl := eq_of_beq q
  exact hf s
 ·cases h
theorem UD {s : zK} (h : zE s = true) : s.drop 1 = zU s ∧ 1 ≤ s.length := by
 refine ⟨by unfold zU; rw [h]; rfl, ?_⟩
 match s, h with
 | [], h => cases h
 | c :: r, _ => simp
theorem U9 {s : zK} (h : zE s = false) : s = zU s := by unfold zU; rw [h]; rfl
theorem Su (s : zK) :
 ZY [AV.str s, AV.str [(45 : UInt8)]] → zv (Lib.hasPrefix s [(45 : UInt8)]) (bF (DB.db (iZ ≤ (↑1 : Int) ∧ (↑1 : Int) ≤ (lZ s))) (List.drop 1 s = zU s)) (s = zU s) := by
 delta bF lZ iZ
 intro hb
 simp only [sS, dS, tt]
 refine zr.2 ⟨fun c => ?_, fun c => U9 c⟩
 obtain ⟨h1, h2⟩ := UD c
 exact ⟨⟨by omega, by omega⟩, h1⟩
theorem RR (s : zK) :
 ZY [AV.str s, AV.str [(45 : UInt8)]] → zv (!Lib.hasPrefix s [(45 : UInt8)]) (j2 ∧ (True ∧ s = zU s) ∧ false = zE s) (bF (DB.db (iZ ≤ (↑1 : Int) ∧ (↑1 : Int) ≤ (lZ s))) (j2 ∧ (True ∧ List.drop 1 s = zU s) ∧ true = zE s)) := by
 delta bF j2 lZ iZ
 intro hb
 simp only [sS, dS, tt]
 refine zr.2 ⟨fun c => ?_, fun c => ?_⟩
 ·rw [Bool.not_eq_true'] at c
  exact ⟨rfl, U9 c, c.symm⟩
 ·rw [Bool.not_eq_false'] at c
  obtain ⟨h1, h2⟩ := UD c
  exact ⟨⟨by omega, by omega⟩, rfl, h1, c.symm⟩
theorem RZ (s : zK) :
 ZY [AV.str s, AV.str [(45 : UInt8)]] → Lib.hasPrefix s [(45 : UInt8)] = zE s := by
 intro hb
 simp only [sS, dS, tt]
theorem wS : zP Tryz.prog [] 114 (YV fun s => .str (zU s)) :=
 Uk fun s => zW mixed XG (Eq.mp (by kernel_rfl) (Su s) : W3 Tryz.prog P4 114 .auto [.str s, .str [45]] (.str (zU s)))
theorem Qq : zP Tryz.prog [] 144 (YV fun s => .tup 2 (zY [.str (zU s), .b (zE s)])) :=
 Uk fun s => zW mixed XG (Eq.mp (by kernel_rfl) (RR s) : W3 Tryz.prog P4 144 .auto [.str s, .str [45]] (.tup 2 (zY [.str (zU s), .b (zE s)])))
theorem QE : zP Tryz.prog [] 80 (YV fun s => .b (zE s)) :=
 Uk fun s => zW mixed XG (Eq.mp (by kernel_rfl) (RZ s) : W3 Tryz.prog P4 80 .auto [.str s, .str [45]] (.b (zE s)))
def XO : zK := [48, 49, 50, 51, 52, 53, 54, 55, 56, 57]
theorem Sa (c : UInt8) : XO.contains c = Zx c := by
 have key : ∀ n : Fin 256, XO.contains (UInt8.ofNat n.val) = Zx (UInt8.ofNat n.val) := by decide +kernel
 have := key ⟨c.toNat, c.toNat_lt⟩
 simpa using this
theorem xT {p : UInt8 → Bool} : ∀ {l : zK}, l.dropWhile p = [] ↔ l.all p = true
 | [] => by simp
 | c :: r => by
  rw [List.dropWhile_cons, List.all_cons]
  cases h : p c with
  | true => simp only [if_true, Bool.true_and]; exact xT
  | false => simp
theorem WI {p : UInt8 → Bool} : ∀ {l : zK} {c : UInt8} {r : zK}, l.dropWhile p = c :: r → p c = false
 | [], _, _, h => by cases h
 | x :: l, c, r, h => by
  rw [List.dropWhile_cons] at h
  cases hx : p x with
  | true => rw [hx, if_pos rfl] at h; exact WI h
  | false => rw [hx] at h; simp only [Bool.false_eq_true, if_false, List.cons.injEq] at h; rw [← h.1]; exact hx
theorem su (s : zK) : (Lib.trimS s XO == []) = s.all Zx := by
 have hp : (fun c => XO.contains c) = Zx := funext Sa
 unfold Lib.trimS Lib.trimLeftS Lib.trimRightS
 rw [hp, Bool.eq_iff_iff, beq_iff_eq, xT, List.all_reverse]
 constructor
 ·intro h
  rw [← List.all_reverse, ← xT]
  cases hd : s.reverse.dropWhile Zx with
  | nil => rfl
  | cons c r =>
   rw [hd, List.all_cons, WI hd] at h
   cases h
 ·intro h
  rw [xT.2 (by rw [List.all_reverse]; exact h)]
  rfl
def Ur : List AV → Option (List zN × AV)
 | [.str s, .str c] => some ([.b (c == XO), .p (s.length ≤ 4294967280)], .str (Lib.trimS s XO))
 | _ => none
theorem Qj : zP Tryz.prog [] 201 Ur := by
 intro xs ps r h hp
 unfold Ur at h
 split at h
 ·rename_i s c
  cases h
  have q : (c == XO) = true := hp _ List.mem_cons_self
  have hl : s.length ≤ 4294967280 := hp _ (List.mem_cons_of_mem _ List.mem_cons_self)
  obtain rfl := eq_of_beq q
  refine ⟨enters_of Tryz.func201 (by kernel_rfl) rfl, fun w S vals hS hg hr => ?_⟩
  match vals, hr with
  | [v, v2], ⟨hv, hv2, _⟩ =>
  obtain rfl := Zu hv
  obtain rfl := Zu hv2
  have hsz : (⟨s.toArray⟩ : ByteArray).size = s.length := rfl
  by_cases h0 : s.length = 0
  ·refine (Any.strings_Trim_empty Tryz.lays160 ⟨s.toArray⟩ ⟨XO.toArray⟩ w (.inl h0)).mono ?_
   rintro e w' ⟨rfl, rfl⟩
   have he : s = [] := List.eq_nil_of_length_eq_zero h0
   subst he
   exact ⟨⟨Below.refl _ _, Nat.le_refl _⟩, _, rfl, .str _⟩
  ·refine (Any.strings_Trim_set Tryz.lays160 (by intro w; kernel_rfl) (by kernel_rfl) ⟨s.toArray⟩ ⟨XO.toArray⟩ w (by decide) (by omega) (by omega) (by decide) (by
    intro j b hj
    have : b ∈ XO := List.mem_of_getElem? hj
    revert this
    exact (show ∀ x ∈ XO, x.toNat < 128 by decide) b)).mono ?_
   rintro e w' ⟨rfl, q, rfl⟩
   refine ⟨⟨⟨rfl, rfl, rfl, ?_, fun b hb => ?_⟩, p7 (Nat.le_add_right _ _)⟩, _, rfl, .str _⟩
   ·show w.heap.size ≤ ((w.heap.push _).push _).size
    rw [Array.size_push, Array.size_push]; omega
   ·show ((w.heap.push _).push _)[b]? = _
    rw [Array.getElem?_push, if_neg (by rw [Array.size_push]; omega), Array.getElem?_push, if_neg (by omega)]
 ·cases h
theorem u5 {c : UInt8} (h : Zx c = true) : Lib.digitVal c = some (wJ c) := by
 have key : ∀ n : Fin 256, Zx (UInt8.ofNat n.val) = true → Lib.digitVal (UInt8.ofNat n.val) = some (wJ (UInt8.ofNat n.val)) := by decide +kernel
 have := key ⟨c.toNat, c.toNat_lt⟩
 simp only [UInt8.ofNat_toNat] at this
 exact this h
theorem Wl : ∀ {l : zK} (a : Nat), (∀ c ∈ l, Zx c = true) → Lib.decFrom a l = some (a * 10 ^ l.length + zI l)
 | [], a, _ => by simp [Lib.decFrom, zI]
 | c :: r, a, h => by
  unfold Lib.decFrom
  rw [u5 (h c List.mem_cons_self)]
  simp only
  rw [Wl _ fun x hx => h x (List.mem_cons_of_mem _ hx), Xd, List.length_cons, Nat.pow_succ, Nat.add_mul]
  congr 1
  rw [Nat.mul_assoc, Nat.mul_comm 10, Nat.add_assoc]
theorem vD {l : zK} (h : Zt l = true) : Lib.decNat l = some (zI l) := by
 obtain ⟨h1, h2, _⟩ := ZT.1 h
 unfold Lib.decNat
 rw [show l.isEmpty = false by cases l with | nil => cases h1 | cons c r => rfl]
 simp only [Bool.false_eq_true, if_false]
 rw [Wl 0 h2, Nat.zero_mul, Nat.zero_add]
theorem SD {s : zK} (h : Zw s = true) : Lib.atoi s = some (zt s) := by
 rcases yr h with ⟨r, rfl, h1, _, h3⟩ | ⟨h1, h3⟩
 ·rw [h3]
  show (Lib.decNat r).map (fun (m : Nat) => -(m : Int)) = _
  rw [vD h1]; rfl
 ·rw [h3]
  obtain ⟨h4, h5, _⟩ := ZT.1 h1
  match s, h4, h5, h1 with
  | c :: r, _, h5, h1 =>
   have hc := yY.1 (h5 c List.mem_cons_self)
   show (if c == 45 then _ else if c == 43 then _ else (Lib.decNat (c :: r)).map fun (m : Nat) => (m : Int)) = _
   rw [if_neg (by rw [beq_iff_eq]; intro e; subst e; exact absurd hc.1 (by decide)), if_neg (by rw [beq_iff_eq]; intro e; subst e; exact absurd hc.1 (by decide)), vD h1]; rfl
def wM : List AV → Option (List zN × AV)
 | [.str s] => some ([.b (Zw s), .p (s.length ≤ 18)], .tup 2 (zY [.i (zt s), .v .nilIface]))
 | _ => none
theorem UM : zP Tryz.prog [] 143 wM := by
 intro xs ps r h hp
 unfold wM at h
 split at h
 ·rename_i s
  cases h
  have q : Zw s = true := hp _ List.mem_cons_self
  have hl : s.length ≤ 18 := hp _ (List.mem_cons_of_mem _ List.mem_cons_self)
  refine ⟨enters_of Tryz.func143 (by kernel_rfl) rfl, fun w S vals hS hg hr => ?_⟩
  match vals, hr with
  | [v], ⟨hv, _⟩ =>
  obtain rfl := Zu hv
  refine (Tryz.strconv_Atoi ⟨s.toArray⟩ (zt s) hl (SD q) w).mono ?_
  rintro e w' ⟨rfl, t, rfl⟩
  refine ⟨⟨⟨?_, ?_, ?_, by rw [Lib.bytesWorld_size]; omega, fun b hb => Lib.bytesWorld_at_old w 5 t b hb⟩, ?_⟩, _, rfl, ?_⟩
  ·rfl
  ·rfl
  ·rfl
  ·exact rP w 1
  ·exact .tup _ rfl fun i hi => by
    match i, hi with
    | 0, _ => exact .v _
    | 1, _ => exact .v _
 ·cases h
end Go.Te

namespace Go.Te
open Go Go.Sx Go.Proofs Go.Ar Go.RowKit
set_option maxRecDepth 100000
set_option maxHeartbeats 4000000
theorem TQ (a : zK) : Zw a = !(zU a == [] || (zU a).getD 0 0 == 48 && !(a == [48]) || !(zU a).all Zx) ∧ YN a = (zU a).length := by
 match a with
 | [] => exact ⟨rfl, rfl⟩
 | c :: r =>
  by_cases hc : c = 45
  ·subst hc
   have h1 := vS (a := 45 :: r) (by simp) rfl
   have ho : zU (45 :: r) = r := rfl
   rw [ho, h1.2.1, h1.2.2.1]
   refine ⟨?_, by simp⟩
   show (Zt r && !(r == [48])) = _
   rw [show ((45 :: r : zK) == [48]) = false from rfl]
   unfold Zt
   match r with
   | [] => rfl
   | [d] =>
    cases hd : Zx d <;> cases h48 : d == 48 <;> simp_all
   | d :: e :: t =>
    simp only [List.length_cons, List.getD_cons_zero, Bool.not_false, Bool.and_true]
    rw [(zF _ _).2 (by omega), (zF _ _).2 (by omega), show ((d :: e :: t : zK) == []) = false from rfl, show ((d :: e :: t : zK) == [48]) = false by simp]
    cases (d :: e :: t).all Zx <;> cases d == 48 <;> rfl
  ·have hm : zE (c :: r) = false := beq_eq_false_iff_ne.2 hc
   have ho : zU (c :: r) = c :: r := by unfold zU; rw [hm]; rfl
   obtain ⟨h1, h2, _⟩ := xJ (a := c :: r) fun h => hc h.2
   rw [ho, h1, h2]
   refine ⟨?_, rfl⟩
   unfold Zt
   match r with
   | [] =>
    cases hd : Zx c <;> cases h48 : c == 48 <;> simp_all
    rfl
   | e :: t =>
    simp only [List.length_cons, List.getD_cons_zero]
    rw [(zF _ _).2 (by omega), (zF _ _).2 (by omega), show ((c :: e :: t : zK) == []) = false from rfl, show ((c :: e :: t : zK) == [48]) = false by simp]
    cases (c :: e :: t).all Zx <;> cases c == 48 <;> rfl
noncomputable def oh : Tb := (T0.plus 114 (YV fun s => .str (zU s))).plus 201 Ur
theorem TH : zz Tryz.prog oh := zz.plus (zz.plus zO wS) Qj
def WY : List AV → Option (List zN × AV)
 | [.str a] => some ([.p (a.length ≤ 4294967280)], .i (YB a))
 | _ => none
theorem sy (a : List UInt8) (hl : a.length ≤ 4294967280) :
 let q2 := (zU a == bA #[]); let q1 := (!zq false q2 || zq false q2); let q4 := (cI (UInt8.toNat (gD (zU a) 0 (0 : UInt8)))); let q3 := (q4 == (48 : Int)); let q7 := (ByteArray.data (ByteArray.mk #[(48 : UInt8)])); let q6 := (bif zU a == bA #[] then true else bif q4 == (48 : Int) then !a == Array.toList q7 else false); let q5 := (!zq false q6 || zq false q6); ZY [AV.str a] → bF q1 (zv (!zq false q2 || DB.db (iZ ≤ iZ ∧ iZ < (lZ (zU a))))
 (bF q1 (bF q1 (bF (!(zq false q2 && zq true q3) || zq false q2 && zq true q3) (bF q1 (bF (!zq false q2 || (!q4 == (48 : Int) || zq false q2 && zq true q3)) (bF (!!zU a == bA #[] || zq false q2) (bF q5 (zv (!zq false q6 || bA #[(48 : UInt8), (49 : UInt8), (50 : UInt8), (51 : UInt8), (52 : UInt8), (53 : UInt8), (54 : UInt8), (55 : UInt8), (56 : UInt8), (57 : UInt8)] == XO) ((zq false q6 = true → lN (zU a) ≤ nM) ∧ bF q5 (bF ((!!bif
 zU a == bA #[] then true else bif q4 == (48 : Int) then !a == Array.toList q7 else false) || zq false q6) (zv (bif bif zU a == bA #[] then true else bif q4 == (48 : Int) then !a == Array.toList q7 else false then true else !Lib.trimS (zU a) XO == bA #[]) (kI ∧ (11 : Int) = YB a) (zv (z7 (300 : Int) (lZ (zU a))) (kI ∧ (4 : Int) = YB a) (kI ∧ iZ = YB a)))))
 False)))))))) False) := by
 delta bF bA nM cI kI lZ lN gD iZ
 dsimp only
 intro hb
 simp only [sS, dS]
 have h48 : ((((zU a).getD 0 0).toNat : Int) == 48) = ((zU a).getD 0 0 == 48) := Xo ((zU a).getD 0 0) 48 (by decide)
 obtain ⟨hI, hL⟩ := TQ a
 have hol := XV a
 rw [show (([48, 49, 50, 51, 52, 53, 54, 55, 56, 57] : zK) == XO) = true from rfl, su, h48]
 have e1 : (!(zU a == [])) = true → 0 < (zU a).length := fun h => by
  match hs : zU a, h with
  | c :: r, _ => simp
 refine ⟨fun h => ⟨Int.le_refl _, by have := e1 h; omega⟩, ?_⟩
 refine vW (by cases zU a == [] <;> cases (zU a).getD 0 0 == 48 <;> rfl) ?_
 refine vW (by cases zU a == [] <;> cases (zU a).getD 0 0 == 48 <;> cases a == [48] <;> rfl) ?_
 refine ⟨fun _ => by omega, zr.2 ⟨fun c => ?_, fun c => ?_⟩⟩
 ·rw [c] at hI
  exact (Sw (by rw [hI]; decide)).symm
 ·rw [c] at hI
  rw [qe hI, hL]
  refine ⟨fun h => ?_, fun h => ?_⟩
  ·rw [(zF _ _).2 (by omega)]; rfl
  ·rw [show Nat.blt 300 (zU a).length = false from Bool.eq_false_iff.2 fun e => by have := (zF _ _).1 e; omega]; rfl
theorem sA (a : List UInt8) (hl : a.length ≤ 4294967280) : zu Tryz.prog [] 142 [.str a] (.i (YB a)) :=
 zW (T := oh) (an := .auto) mixed TH (Eq.mp (by kernel_rfl) (sy a hl))
theorem ry : zP Tryz.prog [] 142 WY := by
 intro xs ps r h hp
 unfold WY at h
 split at h
 ·skip
  rename_i a
  cases h
  obtain ⟨q0, -⟩ := Zs hp
  exact weaken (ys := [.str a]) ⟨zw _, trivial⟩ (sA a q0)
 ·cases h
end Go.Te

namespace Go.Te
open Go Go.Sx Go.Proofs Go.Ar
set_option maxRecDepth 100000
set_option maxHeartbeats 4000000
def ZS (a : zK) : Prop := Zw a = true ∧ a.length ≤ 18
theorem Pq {a : zK} (h : ZS a) : YB a = 0 := Zg.2 ⟨h.1, by have := (wN a).1; have := h.2; omega⟩
theorem SQ {a : zK} (h : Zw a = true) : (zt a).natAbs < 10 ^ a.length := by
 by_cases hm : a.getD 0 0 = 45
 ·have h0 : 0 < a.length := by
   match a, h with
   | [], h => cases h
   | c :: r, _ => simp
  obtain ⟨_, hm1, _, hm4⟩ := vS h0 hm
  rw [hm4]
  rw [h] at hm1
  have hd : Zt (a.drop 1) = true := by
   cases hx : Zt (a.drop 1) with
   | true => rfl
   | false => rw [hx] at hm1; cases hm1
  have := XS (l := a.drop 1) (List.all_eq_true.2 (ZT.1 hd).2.1)
  have h3 : 10 ^ (a.drop 1).length ≤ 10 ^ a.length := Nat.pow_le_pow_right (by omega) (by simp)
  omega
 ·obtain ⟨hp1, _, hp3⟩ := xJ (a := a) fun e => hm e.2
  rw [hp3]
  have := XS (l := a) (List.all_eq_true.2 (ZT.1 (hp1.symm.trans h)).2.1)
  omega
theorem sN {a : zK} (h : ZS a) : (zt a).natAbs < 1000000000000000000 :=
 Nat.lt_of_lt_of_le (SQ h.1) (Nat.le_trans (Nat.pow_le_pow_right (by omega) h.2) (by decide))
def U5 : List AV → Option (List zN × AV)
 | [.str a, .str b] => some ([.p (ZS a), .p (ZS b)], .i 0)
 | _ => none
theorem qx (a : List UInt8) (b : List UInt8) (ha : ZS a) (hc : ZS b) :
 ZY [AV.str a, AV.str b] → lN a ≤ nM ∧ zv (YB a != iZ) (kI ∧ YB a = iZ) (lN b ≤ nM ∧ kI ∧ YB b = iZ) := by
 delta nM kI lN iZ
 intro hb
 simp only [sS, dS]
 have := ha.2
 have := hc.2
 exact ⟨by omega, fun _ => Pq ha, fun _ => ⟨by omega, Pq hc⟩⟩
theorem pU (a : List UInt8) (b : List UInt8) (ha : ZS a) (hc : ZS b) : zu Tryz.prog [] 96 [.str a, .str b] (.i 0) :=
 zW (T := T0.plus 142 WY) (an := .auto) mixed (zz.plus zO ry) (Eq.mp (by kernel_rfl) (qx a b ha hc))
theorem pO : zP Tryz.prog [] 96 U5 := by
 intro xs ps r h hp
 unfold U5 at h
 split at h
 ·skip
  rename_i a b
  cases h
  obtain ⟨q0, q1, -⟩ := Zs hp
  exact weaken (ys := [.str a, .str b]) ⟨zw _, zw _, trivial⟩ (pU a b q0 q1)
 ·cases h
def tz : List AV → Option (List zN × AV)
 | [.str a, .str b, .v (.int .i64 m)] => some ([.p (ZS a), .p (ZS b), .p (m = 18)], .tup 3 (zY [.i (zt a), .i (zt b), .b true]))
 | _ => none
theorem RN (a : List UInt8) (b : List UInt8) (m : Int) (ha : ZS a) (hc : ZS b) (hm : m = 18) :
 let q1 := (!zq false (z7 m (lZ a)) || zq false (z7 m (lZ a))); ZY [AV.str a, AV.str b, aI m] → bF q1 (bF q1 (bF q1 (bF (!!z7 m (lZ a) || zq false (z7 m (lZ a))) (zv (bif z7 m (lZ a) then true else z7 m (lZ b)) (3 = lN [AV.junk, AV.junk, AV.junk] ∧ ((True ∧ kI ∧ iZ = zt a) ∧ kI ∧ iZ = zt b) ∧ false = true) (bF (Zw a) (lN a ≤ 18 ∧ bF (Zw b) (lN b ≤ 18
 ∧ 3 = lN [AV.junk, AV.junk, AV.junk] ∧ ((True ∧ kI ∧ zt a = zt a) ∧ kI ∧ zt b = zt b) ∧ (bif true then true else false) = true))))))) := by
 delta bF kI lZ lN iZ aI
 dsimp only
 intro hb
 simp only [sS, dS]
 subst hm
 obtain ⟨h1, h2⟩ := ha
 obtain ⟨h3, h4⟩ := hc
 refine zr.2 ⟨fun c => ?_, fun c => ?_⟩
 ·rw [Bool.or_eq_true, zm, zm] at c
  omega
 ·rw [h1, h3]
  exact ⟨by omega, by omega, rfl⟩
theorem Q0 (a : List UInt8) (b : List UInt8) (m : Int) (ha : ZS a) (hc : ZS b) (hm : m = 18) : zu Tryz.prog [] 97 [.str a, .str b, .i m] (.tup 3 (zY [.i (zt a), .i (zt b), .b true])) :=
 zW (T := T0.plus 143 wM) (an := .auto) mixed (zz.plus zO UM) (Eq.mp (by kernel_rfl) (RN a b m ha hc hm))
theorem QU : zP Tryz.prog [] 97 tz := by
 intro xs ps r h hp
 unfold tz at h
 split at h
 ·skip
  rename_i a b m
  cases h
  obtain ⟨q0, q1, q2, -⟩ := Zs hp
  exact weaken (ys := [.str a, .str b, .i m]) ⟨zw _, zw _, zw _, trivial⟩ (Q0 a b m q0 q1 q2)
 ·cases h
noncomputable def P7 (G : List (Nat × Obj)) : Tb := ((PM G).plus 96 U5).plus 97 tz
theorem vT {G : List (Nat × Obj)} (hG : zL G) : zz Tryz.prog (P7 G) := zz.plus (zz.plus (xi hG) (zP.mono pO)) (zP.mono QU)
theorem tX (x : Int) : (if -x > x then -x else x) = (x.natAbs : Int) := by split <;> omega
def xh (a b : zK) : Nat := Nat.gcd (zt a).natAbs (zt b).natAbs
structure ZG where
 x : Int
 y : Int
def qp (a b : zK) : Z6 :=
 .two .auto (.two .auto (.two (.two .auto (.two .auto (.two (.two (.one (.loop ZG (fun σ z => [(7, .i z.x), (8, .i z.y)]) (fun σ z => []) 0 (fun σ z => Nat.gcd z.x.natAbs z.y.natAbs = xh a b ∧ z.x.natAbs ≤ 1000000000000000000 ∧ z.y.natAbs ≤ 1000000000000000000) (fun σ z => z.y.natAbs) .auto)) .auto) .auto))) .auto))
def tS : List AV → Option (List zN × AV)
 | [.str a, .str b] => some ([.p (ZS a), .p (ZS b)], .tup 2 (zY [.str (Lib.itoa (xh a b : Int)), .i 0]))
 | _ => none
theorem qE (G : List (Nat × Obj)) (a : List UInt8) (b : List UInt8) (ha : ZS a) (hc : ZS b) :
 ZY [AV.str a, AV.str b] → (Zw a = true ∧ lN a ≤ 18) ∧ (Zw b = true ∧ lN b ≤ 18) ∧ (Zw a = true ∧ lN a ≤ 18) ∧ (Zw b = true ∧ lN b ≤ 18) ∧ (18 : Int) = (18 : Int) ∧ (∃ (z : ZG), ((Nat.gcd (Int.natAbs (ZG.x z)) (Int.natAbs (ZG.y z)) = xh a b ∧ Int.natAbs (ZG.x z) ≤ 1000000000000000000 ∧ Int.natAbs (ZG.y z) ≤ 1000000000000000000) ∧ (kI ∧ zt a = ZG.x z) ∧ kI ∧ zt b = ZG.y z) ∧ True) ∧ ∀ (z : ZG), Nat.gcd (Int.natAbs (ZG.x z)) (Int.natAbs (ZG.y z)) = xh a b ∧ Int.natAbs (ZG.x z) ≤ 1000000000000000000 ∧
 Int.natAbs (ZG.y z) ≤ 1000000000000000000 → zv (ZG.y z != iZ) (bF (DB.db (ZG.y z ≠ iZ)) (∃ (z' : ZG), (((Nat.gcd (Int.natAbs (ZG.x z')) (Int.natAbs (ZG.y z')) = xh a b ∧ Int.natAbs (ZG.x z') ≤ 1000000000000000000 ∧ Int.natAbs (ZG.y z') ≤ 1000000000000000000) ∧ Int.natAbs (ZG.y z') < Int.natAbs (ZG.y z)) ∧ (kI ∧ ZG.y z = ZG.x z') ∧ kI ∧ Int.tmod (ZG.x z) (ZG.y z) = ZG.y z') ∧ True)) (bF (dK (-ZG.x z)) (((iN ≤ if -ZG.x z > ZG.x z then -ZG.x z else ZG.x z) ∧ (if -ZG.x z >
 ZG.x z then -ZG.x z else ZG.x z) ≤ iX) ∧ j2 ∧ (True ∧ Lib.itoa (if -ZG.x z > ZG.x z then -ZG.x z else ZG.x z) = Lib.itoa (cI (xh a b))) ∧ kI ∧ iZ = iZ)) := by
 delta bF dK cI kI j2 lN iZ iX iN
 intro hb
 simp only [sS, dS]
 have x1 := sN ha
 have x2 := sN hc
 refine ⟨ha, hc, ha, hc, ⟨⟨zt a, zt b⟩, ⟨rfl, by simp only; omega, by simp only; omega⟩, rfl, rfl⟩, fun z ⟨z1, z2, z3⟩ => ⟨fun hy => ⟨hy, ⟨z.y, z.x.tmod z.y⟩, ⟨⟨?_, z3, ?_⟩, ?_⟩, rfl, rfl⟩, fun hy => ?_⟩⟩
 ·rw [Int.natAbs_tmod, ← uG (y := z.y.natAbs) (by omega), z1]
 ·rw [Int.natAbs_tmod]
  have : z.x.natAbs % z.y.natAbs ≤ z.x.natAbs := Nat.mod_le _ _
  omega
 ·rw [Int.natAbs_tmod]
  exact Nat.mod_lt _ (by omega)
 ·rw [hy, Int.natAbs_zero, Nat.gcd_zero_right] at z1
  rw [tX, z1]
  rw [z1] at z2
  exact ⟨⟨by omega, by omega⟩, ⟨by omega, by omega⟩, rfl, rfl⟩
theorem pp {G : List (Nat × Obj)} (hG : zL G) (a : List UInt8) (b : List UInt8) (ha : ZS a) (hc : ZS b) : zu Tryz.prog G 102 [.str a, .str b] (.tup 2 (zY [.str (Lib.itoa (xh a b : Int)), .i 0])) :=
 zW (T := P7 G) (an := qp a b) mixed (vT hG) (Eq.mp (by kernel_rfl) (qE G a b ha hc))
theorem QX {G : List (Nat × Obj)} (hG : zL G) : zP Tryz.prog G 102 tS := by
 intro xs ps r h hp
 unfold tS at h
 split at h
 ·skip
  rename_i a b
  cases h
  obtain ⟨q0, q1, -⟩ := Zs hp
  exact weaken (ys := [.str a, .str b]) ⟨zw _, zw _, trivial⟩ (pp hG a b q0 q1)
 ·cases h
theorem SK {a b q r : Int} (h : r + b * q = a) (hr : (0 < b ∧ 0 ≤ r ∧ r < b) ∨ (b < 0 ∧ b < r ∧ r ≤ 0)) : Int.fdiv a b = q ∧ Int.fmod a b = r := by
 rcases hr with ⟨h0, h1, h2⟩ | ⟨h0, h1, h2⟩
 ·rw [Int.fdiv_eq_ediv_of_nonneg _ (by omega), Int.fmod_eq_emod_of_nonneg _ (by omega)]
  exact (Int.ediv_emod_unique h0).2 ⟨h, h1, h2⟩
 ·have h3 : (-a) / (-b) = q ∧ (-a) % (-b) = -r := (Int.ediv_emod_unique (by omega)).2 ⟨by rw [Int.neg_mul]; omega, by omega, by omega⟩
  rw [← Int.neg_fdiv_neg, Int.fdiv_eq_ediv_of_nonneg _ (by omega)]
  refine ⟨h3.1, ?_⟩
  have h4 := Int.neg_fmod_neg a b
  rw [Int.fmod_eq_emod_of_nonneg _ (by omega), h3.2] at h4
  omega
theorem rh {a b : Int} (hb : b ≠ 0) :
  ((a.tmod b != 0 && !(z7 (a.tmod b) 0 == z7 b 0)) = true → Int.fdiv a b = a.tdiv b - 1 ∧ Int.fmod a b = a.tmod b + b) ∧
  ((a.tmod b != 0 && !(z7 (a.tmod b) 0 == z7 b 0)) = false → Int.fdiv a b = a.tdiv b ∧ Int.fmod a b = a.tmod b) ∧ (a.tmod b).natAbs < b.natAbs ∧ (a.tdiv b).natAbs ≤ a.natAbs := by
 have e := Int.mul_tdiv_add_tmod a b
 have m : (a.tmod b).natAbs < b.natAbs := by rw [Int.natAbs_tmod]; exact Nat.mod_lt _ (by omega)
 refine ⟨fun c => SK ?_ ?_, fun c => SK (by omega) ?_, m, Int.natAbs_tdiv_le_natAbs a b⟩
 ·rw [Int.mul_sub, Int.mul_one]; omega
 all_goals
  generalize a.tmod b = r at *
  rcases Int.lt_or_le b 0 with h1 | h1 <;> rcases Int.lt_or_le r 0 with h2 | h2
  ·rw [(zm _ _).2 h1, (zm _ _).2 h2] at c
   simp at c <;> omega
  ·rw [(zm _ _).2 h1, show z7 r 0 = false from Bool.eq_false_iff.2 fun e => by have := (zm _ _).1 e; omega] at c
   simp at c <;> omega
  ·rw [(zm _ _).2 h2, show z7 b 0 = false from Bool.eq_false_iff.2 fun e => by have := (zm _ _).1 e; omega] at c
   simp at c <;> omega
  ·rw [show z7 b 0 = false from Bool.eq_false_iff.2 fun e => by have := (zm _ _).1 e; omega, show z7 r 0 = false from Bool.eq_false_iff.2 fun e => by have := (zm _ _).1 e; omega] at c
   simp at c <;> omega
def Uj : List AV → Option (List zN × AV)
 | [.str a, .str b] => some ([.p (ZS a), .p (ZS b), .p (0 < zt b)], .tup 3 (zY [.str (Lib.itoa (zt a / zt b)), .str (Lib.itoa (zt a % zt b)), .i 0]))
 | _ => none
theorem Rm (G : List (Nat × Obj)) (a : List UInt8) (b : List UInt8) (ha : ZS a) (hc : ZS b) (hd : 0 < zt b) :
 let q2 := (Int.tmod (zt a) (zt b) != iZ); let q1 := (!zq true q2 || zq true q2); let q3 := (Int.tdiv (zt a) (zt b) - iO); ZY [AV.str a, AV.str b] → (Zw a = true ∧ lN a ≤ 18) ∧ (Zw b = true ∧ lN b ≤ 18) ∧ zv (b == bA #[(48 : UInt8)]) (3 = lN [AV.junk, AV.junk, AV.junk] ∧ ((True ∧ bA #[] = Lib.itoa (zt a / zt b)) ∧ bA #[] = Lib.itoa (zt a % zt b)) ∧ kI ∧ (12 : Int) = iZ) ((Zw a
 = true ∧ lN a ≤ 18) ∧ (Zw b = true ∧ lN b ≤ 18) ∧ (18 : Int) = (18 : Int) ∧ bF (DB.db (zt b ≠ iZ)) (bF (dK (Int.tdiv (zt a) (zt b))) (bF (DB.db (zt b ≠ iZ)) (bF q1 (bF q1 (bF q1 (bF q1 (bF (!Int.tmod (zt a) (zt b) != iZ || zq true q2) (zv (bif Int.tmod (zt a) (zt b) != iZ then !z7 (Int.tmod (zt a) (zt b)) iZ == z7 (zt b) iZ else false) (bF (dK q3) (bF (dK (Int.tmod (zt a) (zt b) + zt b)) ((iN
 ≤ Int.tdiv (zt a) (zt b) - iO ∧ Int.tdiv (zt a) (zt b) - iO ≤ iX) ∧ (iN ≤ Int.tmod (zt a) (zt b) + zt b ∧ Int.tmod (zt a) (zt b) + zt b ≤ iX) ∧ 3 = lN [AV.junk, AV.junk, AV.junk] ∧ ((True ∧ Lib.itoa q3 = Lib.itoa (zt a / zt b)) ∧ Lib.itoa (Int.tmod (zt a) (zt b) + zt b) = Lib.itoa (zt a % zt b)) ∧ kI ∧ iZ = iZ))) ((iN ≤ Int.tdiv (zt a) (zt b) ∧ Int.tdiv (zt a) (zt b) ≤ (9223372036854775807
 : Int)) ∧ (iN ≤ Int.tmod (zt a) (zt b) ∧ Int.tmod (zt a) (zt b) ≤ iX) ∧ 3 = lN [AV.junk, AV.junk, AV.junk] ∧ ((True ∧ Lib.itoa (Int.tdiv (zt a) (zt b)) = Lib.itoa (zt a / zt b)) ∧ Lib.itoa (Int.tmod (zt a) (zt b)) = Lib.itoa (zt a % zt b)) ∧ kI ∧ iZ = iZ)))))))))) := by
 delta bF dK bA kI lN iZ iO iX iN
 dsimp only
 intro hb
 simp only [sS, dS]
 have x1 := sN ha
 have x2 := sN hc
 have h0 : (b == [48]) = false := beq_eq_false_iff_ne.2 fun e => by subst e; exact absurd hd (by decide)
 obtain ⟨f1, f2, f3, f4⟩ := rh (a := zt a) (b := zt b) (by omega)
 rw [Int.fdiv_eq_ediv_of_nonneg _ (by omega), Int.fmod_eq_emod_of_nonneg _ (by omega)] at f1 f2
 rw [h0, PC]
 refine ⟨ha, hc, ha, hc, by omega, ⟨by omega, by omega⟩, by omega, zr.2 ⟨fun c => ?_, fun c => ?_⟩⟩
 ·obtain ⟨g1, g2⟩ := f1 c
  rw [g1, g2]
  exact ⟨⟨by omega, by omega⟩, ⟨by omega, by omega⟩, ⟨by omega, by omega⟩, ⟨by omega, by omega⟩, rfl, rfl, rfl⟩
 ·obtain ⟨g1, g2⟩ := f2 c
  rw [g1, g2]
  exact ⟨⟨by omega, by omega⟩, ⟨by omega, by omega⟩, rfl, rfl, rfl⟩
theorem pm {G : List (Nat × Obj)} (hG : zL G) (a : List UInt8) (b : List UInt8) (ha : ZS a) (hc : ZS b) (hd : 0 < zt b) : zu Tryz.prog G 103 [.str a, .str b] (.tup 3 (zY [.str (Lib.itoa (zt a / zt b)), .str (Lib.itoa (zt a % zt b)), .i 0])) :=
 zW (T := P7 G) (an := .auto) mixed (vT hG) (Eq.mp (by kernel_rfl) (Rm G a b ha hc hd))
theorem QO {G : List (Nat × Obj)} (hG : zL G) : zP Tryz.prog G 103 Uj := by
 intro xs ps r h hp
 unfold Uj at h
 split at h
 ·skip
  rename_i a b
  cases h
  obtain ⟨q0, q1, q2, -⟩ := Zs hp
  exact weaken (ys := [.str a, .str b]) ⟨zw _, zw _, trivial⟩ (pm hG a b q0 q1 q2)
 ·cases h
end Go.Te

namespace Go.Te
open Go Go.Sx Go.Proofs Go.Ar
set_option maxRecDepth 100000
set_option maxHeartbeats 4000000
def YD (s : zK) : zK := s.takeWhile Zx
def ZV (s : zK) : Bool := Zt (YD s) && leB ((YD s).length : Int) 8
def zf (s : zK) : Int := bif ZV s then (zI (YD s) : Int) else 0
def zj (s : zK) : zK := bif ZV s then s.drop (YD s).length else []
theorem Vp {a b : zK} (h : ∀ c ∈ a, Zx c = true) : YD (a ++ b) = a ++ YD b := by
 unfold YD
 exact List.takeWhile_append_of_pos h
theorem ws {s : zK} {z : Nat} (h1 : z ≤ s.length) (h2 : ∀ i, i < z → Zx (s.getD i 0) = true) : ∀ c ∈ s.take z, Zx c = true := fun c hc => by
 obtain ⟨i, hi, e⟩ := wL hc
 rw [List.length_take] at hi
 rw [← e, getD_takeS (by omega)]
 exact h2 i (by omega)
theorem Tw {s : zK} {z : Nat} (h1 : z ≤ s.length) (h2 : ∀ i, i < z → Zx (s.getD i 0) = true) (h3 : z = s.length ∨ Zx (s.getD z 0) = false) : YD s = s.take z := by
 conv => lhs; rw [← List.take_append_drop z s]
 rw [Vp (ws h1 h2)]
 have : YD (s.drop z) = [] := by
  by_cases hz : z = s.length
  ·rw [List.drop_of_length_le (by omega)]; rfl
  ·rw [wB (by omega)]
   unfold YD
   rw [List.takeWhile_cons, h3.resolve_left hz]
   rfl
 rw [this, List.append_nil]
theorem PP {s : zK} {z : Nat} (h1 : z ≤ s.length) (h2 : ∀ i, i < z → Zx (s.getD i 0) = true) : z ≤ (YD s).length := by
 have : YD s = s.take z ++ YD (s.drop z) := by
  conv => lhs; rw [← List.take_append_drop z s]
  exact Vp (ws h1 h2)
 rw [this, List.length_append, List.length_take]
 omega
theorem s9 {s : zK} {z : Nat} (h1 : z ≤ s.length) (h2 : ∀ i, i < z → Zx (s.getD i 0) = true) (h3 : z = s.length ∨ 8 < z ∨ Zx (s.getD z 0) = false) :
  ZV s = !((z : Int) == 0 || z7 8 (z : Int) || z7 1 (z : Int) && ((s.getD 0 0).toNat : Int) == 48) ∧ (ZV s = true → YD s = s.take z) := by
 by_cases h8 : 8 < z
 ·have hg := PP h1 h2
  have e : ZV s = false := by
   unfold ZV
   rw [show leB ((YD s).length : Int) 8 = false from Bool.eq_false_iff.2 fun e => by have := (Zy _ _).1 e; omega, Bool.and_false]
  rw [e, (zm _ _).2 (show (8 : Int) < (z : Int) by omega)]
  exact ⟨by simp, fun h => by cases h⟩
 ·have ht := Tw h1 h2 (h3.imp id fun h => h.resolve_left h8)
  refine ⟨?_, fun _ => ht⟩
  have e48 : (((s.getD 0 0).toNat : Int) == 48) = (s.getD 0 0 == 48) := Xo (s.getD 0 0) 48 (by decide)
  unfold ZV
  have hl : (s.take z).length = z := by rw [List.length_take]; omega
  rw [ht, hl, e48, (Zy _ _).2 (show (z : Int) ≤ 8 by omega), Bool.and_true, show z7 8 (z : Int) = false from Bool.eq_false_iff.2 fun e => by have := (zm _ _).1 e; omega]
  unfold Zt
  rw [hl, List.all_eq_true.2 (ws h1 h2), show z7 1 (z : Int) = Nat.blt 1 z from by rw [Bool.eq_iff_iff, zm, zF]; omega]
  by_cases h0 : z = 0
  ·subst h0; rfl
  ·rw [(zF _ _).2 (show 0 < z by omega), beq_eq_false_iff_ne.2 (show (z : Int) ≠ 0 by omega), getD_takeS (show 0 < z by omega)]
   cases Nat.blt 1 z <;> cases s.getD 0 0 == 48 <;> rfl
def sE (s : zK) : Z6 :=
 .two .auto (.two .auto (.two (.one (.loop Nat (fun σ z => [(0, σ.tm 0), (5, .i (zI (s.take z) : Int)), (6, .i (z : Int))]) (fun σ z => []) 0 (fun σ z => z ≤ s.length ∧ z ≤ 9 ∧ ∀ i, i < z → Zx (s.getD i 0) = true) (fun σ z => s.length - z) .auto)) .auto))
def V6 : List AV → Option (List zN × AV)
 | [.str s] => some ([.p (s.length ≤ 9223372036854775807)], .tup 3 (zY [.i (zf s), .str (zj s), .b (ZV s)]))
 | _ => none
theorem rC (s : List UInt8) (hl : s.length ≤ 9223372036854775807) :
 ZY [AV.str s] → (∃ (z : Nat), ((z ≤ lN s ∧ z ≤ 9 ∧ ∀ (i : Nat), i < z → Zx (gD s i (0 : UInt8)) = true) ∧ s = s ∧ (kI ∧ iZ = (cI (zI (List.take z s)))) ∧ kI ∧ iZ = (cI z)) ∧ True) ∧ ∀ (z : Nat), let q1 := (z7 (cI z) (lZ s)); let q3 := (bif z7 (cI z) (lZ s) then leB (cI z) (8 : Int) else false); let q2 := (!zq true q3 || zq true q3); let q4 := (iZ ≤ (cI z) ∧ (cI z) < (lZ s)); let q7 := (cI (UInt8.toNat (gD s (Int.toNat (↑z : Int))
 (0 : UInt8)))); let q6 := (bif bif z7 (cI z) (lZ s) then leB (cI z) (8 : Int) else false then leB (48 : Int) q7 else false); let q5 := (!zq true q6 || zq true q6); let q8 := (q7 - (48 : Int)); let q10 := (bif (cI z) == iZ then true else z7 (8 : Int) (cI z)); let q9 := (!zq false q10 || zq false q10); let q12 := (zq false q10 && zq true (z7 iO (cI z))); let q11 := (!q12 || zq false q10 && zq true (z7 iO (cI z))); (z ≤ lN s ∧ z ≤ 9 ∧ ∀ (i : Nat), i < z → Zx (gD s i (0 : UInt8)) = true) →
 bF (!zq true q1 || zq true q1) (bF (!z7 (cI z) (lZ s) || zq true q1) (bF q2 (bF q2 (bF (!zq true q3 || DB.db q4) (bF q2 (bF ((!bif z7 (cI z) (lZ s) then leB (cI z) (8 : Int) else false) || zq true q3) (bF q5 (bF q5 (bF (!zq true q6 || DB.db q4) (bF q5 (bF ((!bif bif z7 (cI z) (lZ s) then leB (cI z) (8 : Int) else false then leB (48 : Int) q7 else false) || zq true q6) (zv (bif bif bif z7 (cI z) (lZ s) then leB (cI z) (8 : Int)
 else false then leB (48 : Int) q7 else false then leB q7 (57 : Int) else false) (bF (dK ((10 : Int) * (cI (zI (List.take z s))))) (bF (DB.db q4) (bF (DB.db (YT IntKind.u8 q8)) (bF (dK q8) (bF (dK ((10 : Int) * (cI (zI (List.take z s))) + q8)) (bF (dK ((cI z) + iO)) (∃ (z' : Nat), (((z' ≤ lN s ∧ z' ≤ 9 ∧ ∀ (i : Nat), i < z' → Zx (gD s i (0 : UInt8)) = true) ∧ lN s - z' < lN s - z) ∧ s = s ∧ (kI ∧ (10 : Int) * (cI (zI (List.take z s))) +
 q8 = (cI (zI (List.take z' s)))) ∧ kI ∧ (cI z) + iO = (cI z')) ∧ True))))))) (bF (!zq false ((cI z) == iZ) || zq false ((cI z) == iZ)) (bF (!!(cI z) == iZ || zq false ((cI z) == iZ)) (bF q9 (bF q9 (bF q11 (bF (!q12 || DB.db (iZ ≤ iZ ∧ iZ < (lZ s))) (bF q11 (bF q9 (bF (!zq false q10 || (!z7 iO (cI z) || zq false q10 && zq true (z7 iO (cI z)))) (bF ((!!bif (cI z)
 == iZ then true else z7 (8 : Int) (cI z)) || zq false q10) (zv (bif bif (cI z) == iZ then true else z7 (8 : Int) (cI z) then true else bif z7 iO (cI z) then (cI (UInt8.toNat (gD s 0 (0 : UInt8)))) == (48 : Int) else false) (3 = lN [AV.junk, AV.junk, AV.junk] ∧ ((True ∧ kI ∧ iZ = zf s) ∧ bA #[] = zj s) ∧ false = ZV s) (bF (DB.db (iZ ≤ (cI z) ∧ (cI z) ≤ (lZ s))) (3 = lN [AV.junk, AV.junk, AV.junk] ∧ ((True ∧
 kI ∧ (cI (zI (List.take z s))) = zf s) ∧ List.drop (Int.toNat (cI z)) s = zj s) ∧ true = ZV s))))))))))))))))))))))))) := by
 delta bF dK bA cI kI lZ lN gD iZ iO
 dsimp only
 intro hb
 simp only [sS, dS, xI, oA]
 have dg2 : ∀ c : UInt8, (leB 48 (c.toNat : Int) && leB (c.toNat : Int) 57) = Zx c := fun c => by rw [Bool.eq_iff_iff, Bool.and_eq_true, Zy, Zy, yY]; omega
 simp only [Bool.and_assoc, dg2]
 refine ⟨⟨0, ⟨Nat.zero_le _, Nat.zero_le _, fun i hi => absurd hi (Nat.not_lt_zero _)⟩, rfl, rfl⟩, fun z ⟨z1, z2, z3⟩ => ⟨fun h => ?_, fun h => ?_, zr.2 ⟨fun c => ?_, fun c => ⟨fun h => ?_, ?_⟩⟩⟩⟩
 ·rw [Bool.and_eq_true] at h; have := (zm _ _).1 h.1; omega
 ·rw [Bool.and_eq_true] at h; have := (zm _ _).1 h.1; omega
 ·rw [Bool.and_eq_true, Bool.and_eq_true] at c
  obtain ⟨c1, c2, c3⟩ := c
  have c1 : z < s.length := by have := (zm _ _).1 c1; omega
  have c2 : z ≤ 8 := by have := (Zy _ _).1 c2; omega
  have hd := yY.1 c3
  have hst : (zI (s.take (z + 1)) : Int) = 10 * (zI (s.take z) : Int) + (((s.getD z 0).toNat : Int) - 48) := by
   rw [Un (by omega), Xb]
   unfold wJ
   omega
  have b1 : zI (s.take z) < 10 ^ 9 := by
   have h1 := XS (l := s.take z) (List.all_eq_true.2 (ws z1 z3))
   exact Nat.lt_of_lt_of_le h1 (Nat.pow_le_pow_right (by omega) (by rw [List.length_take]; omega))
  rw [show 10 ^ 9 = 1000000000 from by decide] at b1
  refine ⟨⟨by omega, by omega⟩, ⟨by omega, by omega⟩, ⟨by omega, by omega⟩, ⟨by omega, by omega⟩, ⟨by omega, by omega⟩, ⟨by omega, by omega⟩, z + 1, ⟨⟨by omega, by omega, fun i hi => ?_⟩, by omega⟩, hst.symm, by omega⟩
  by_cases e : i = z
  ·rw [e]; exact c3
  ·exact z3 i (by omega)
 ·rw [Bool.and_eq_true, zm] at h; exact ⟨by omega, by omega⟩
 ·have h3 : z = s.length ∨ 8 < z ∨ Zx (s.getD z 0) = false := by
   by_cases q1 : z = s.length
   ·exact .inl q1
   by_cases q2 : 8 < z
   ·exact .inr (.inl q2)
   refine .inr (.inr ?_)
   have q3 : z7 (z : Int) (s.length : Int) = true := (zm _ _).2 (by omega)
   have q4 : leB (z : Int) 8 = true := (Zy _ _).2 (by omega)
   rw [q3, q4] at c
   simpa using c
  obtain ⟨k1, k2⟩ := s9 z1 z3 h3
  refine vW (by cases ((z : Int) == 0 || z7 8 (z : Int)) <;> cases z7 1 (z : Int) <;> rfl) ?_
  unfold zf zj
  refine zr.2 ⟨fun c2 => ?_, fun c2 => ?_⟩
  ·rw [c2] at k1
   rw [k1]
   exact ⟨rfl, ⟨rfl, rfl⟩, rfl⟩
  ·rw [c2] at k1
   have ht := k2 k1
   rw [k1, ht, List.length_take, show min z s.length = z by omega]
   exact ⟨⟨by omega, by omega⟩, rfl, ⟨rfl, rfl⟩, rfl⟩
theorem qU (s : List UInt8) (hl : s.length ≤ 9223372036854775807) : zu Tryz.prog [] 110 [.str s] (.tup 3 (zY [.i (zf s), .str (zj s), .b (ZV s)])) :=
 zW (T := T0) (an := sE s) mixed zO (Eq.mp (by kernel_rfl) (rC s hl))
theorem qt : zP Tryz.prog [] 110 V6 := by
 intro xs ps r h hp
 unfold V6 at h
 split at h
 ·skip
  rename_i s
  cases h
  obtain ⟨q0, -⟩ := Zs hp
  exact weaken (ys := [.str s]) ⟨zw _, trivial⟩ (qU s q0)
 ·cases h
def Y1 (x y : Int) : Int := bif leB 0 x && leB 0 y then (Nat.gcd x.toNat y.toNat : Int) else 0
def qL (x y : Int) : Z6 :=
 .two .auto (.two (.one (.loop ZG (fun σ z => [(0, .i z.x), (1, .i z.y)]) (fun σ z => []) 0 (fun σ z => 0 ≤ z.x ∧ 0 ≤ z.y ∧ z.x ≤ 9223372036854775807 ∧ z.y ≤ 9223372036854775807 ∧ Nat.gcd z.x.toNat z.y.toNat = Nat.gcd x.toNat y.toNat) (fun σ z => z.y.toNat) .auto)) .auto)
def v6 : List AV → Option (List zN × AV)
 | [.v (.int .i64 x), .v (.int .i64 y)] => some ([.p (0 ≤ x ∧ x ≤ 9223372036854775807), .p (0 ≤ y ∧ y ≤ 9223372036854775807)], .i (Y1 x y))
 | _ => none
theorem RA (x : Int) (y : Int) (h1 : 0 ≤ x ∧ x ≤ 9223372036854775807) (h2 : 0 ≤ y ∧ y ≤ 9223372036854775807) :
 ZY [aI x, aI y] → (∃ (z : ZG), ((iZ ≤ ZG.x z ∧ iZ ≤ ZG.y z ∧ ZG.x z ≤ iX ∧ ZG.y z ≤ iX ∧ Nat.gcd (Int.toNat (ZG.x z)) (Int.toNat (ZG.y z)) = Nat.gcd (Int.toNat x) (Int.toNat y)) ∧ (kI ∧ x = ZG.x z) ∧ kI ∧ y = ZG.y z) ∧ True) ∧ ∀ (z : ZG), iZ ≤ ZG.x z ∧ iZ ≤ ZG.y z ∧ ZG.x z ≤ iX ∧ ZG.y z ≤ iX ∧ Nat.gcd (Int.toNat (ZG.x z)) (Int.toNat (ZG.y z)) = Nat.gcd (Int.toNat x) (Int.toNat y) →
 zv (ZG.y z != iZ) (bF (DB.db (ZG.y z ≠ iZ)) (∃ (z' : ZG), (((iZ ≤ ZG.x z' ∧ iZ ≤ ZG.y z' ∧ ZG.x z' ≤ iX ∧ ZG.y z' ≤ iX ∧ Nat.gcd (Int.toNat (ZG.x z')) (Int.toNat (ZG.y z')) = Nat.gcd (Int.toNat x) (Int.toNat y)) ∧ Int.toNat (ZG.y z') < Int.toNat (ZG.y z)) ∧ (kI ∧ ZG.y z = ZG.x z') ∧ kI ∧ Int.tmod (ZG.x z) (ZG.y z) = ZG.y z') ∧ True)) (kI ∧ ZG.x z = Y1 x y) := by
 delta bF kI iZ iX aI
 intro hb
 simp only [sS, dS]
 have hO : Y1 x y = (Nat.gcd x.toNat y.toNat : Int) := by unfold Y1; rw [(Zy _ _).2 h1.1, (Zy _ _).2 h2.1]; rfl
 rw [hO]
 refine ⟨⟨⟨x, y⟩, ⟨h1.1, h2.1, h1.2, h2.2, rfl⟩, rfl, rfl⟩, fun z ⟨z1, z2, z3, z4, z5⟩ => ⟨fun hy => ?_, fun hy => ?_⟩⟩
 ·generalize z.x = zx at *
  generalize z.y = zy at *
  obtain ⟨X, rfl⟩ : ∃ X : Nat, zx = X := ⟨zx.toNat, by omega⟩
  obtain ⟨Y, rfl⟩ : ∃ Y : Nat, zy = Y := ⟨zy.toNat, by omega⟩
  have tm : (X : Int).tmod (Y : Int) = ((X % Y : Nat) : Int) := by rw [Int.tmod_eq_emod_of_nonneg (by omega)]; omega
  have hm : X % Y < Y := Nat.mod_lt _ (by omega)
  refine ⟨hy, ⟨Y, ((X % Y : Nat) : Int)⟩, ⟨⟨by simp only; omega, by simp only; omega, by simp only; omega, by simp only; omega, ?_⟩, by simp only; omega⟩, rfl, tm⟩
  simp only [Int.toNat_natCast] at z5 ⊢
  rw [← uG (by omega)]; exact z5
 ·rw [hy] at z5
  simp only [Int.toNat_zero, Nat.gcd_zero_right] at z5
  omega
theorem Qr (x : Int) (y : Int) (h1 : 0 ≤ x ∧ x ≤ 9223372036854775807) (h2 : 0 ≤ y ∧ y ≤ 9223372036854775807) : zu Tryz.prog [] 111 [.i x, .i y] (.i (Y1 x y)) :=
 zW (T := T0) (an := qL x y) mixed zO (Eq.mp (by kernel_rfl) (RA x y h1 h2))
theorem Sv : zP Tryz.prog [] 111 v6 := by
 intro xs ps r h hp
 unfold v6 at h
 split at h
 ·skip
  rename_i x y
  cases h
  obtain ⟨q0, q1, -⟩ := Zs hp
  exact weaken (ys := [.i x, .i y]) ⟨zw _, zw _, trivial⟩ (Qr x y q0 q1)
 ·cases h
end Go.Te
