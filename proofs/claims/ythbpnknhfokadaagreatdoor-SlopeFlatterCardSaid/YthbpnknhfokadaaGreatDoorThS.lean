/- Contracts of the library at this program, laid out of the kit's shelf by its own tools, reduced. -/
import Derived.Shelf.Small.Bits
import Derived.Shelf.Strconv.Atoi
import Derived.Shelf.Strconv.Itoa3
import Derived.Shelf.Strings.Search2
import Derived.Shelf.Strings.Prefix
import Derived.Shelf.LaysM
import Derived.Test.YthbpnknhfokadaaGreatDoorProg
import Derived.Test.YthbpnknhfokadaaGreatDoorArA
import Derived.Test.YthbpnknhfokadaaGreatDoorArH
import Derived.Shelf.Strings.SlTrimAscii
import Derived.Test.YthbpnknhfokadaaGreatDoorSxS
set_option linter.unusedSimpArgs false
set_option linter.unusedVariables false
namespace Go.Proofs
open Go.Shelf
def Tryz.lays219_ren : Go.Shelf.Ren := ⟨fun | 219 => 186 | 217 => 207 | 225 => 208 | 224 => 209 | 267 => 210 | 266 => 220 | 314 => 221 | n => n, fun | 9 => 9 | 3 => 3 | 4 => 4 | 5 => 5 | 46 => 127 | 146 => 236 | 51 => 184 | n => n, fun | 1 => 3 | n => n⟩
theorem Tryz.lays219 : Go.Proofs.Lays.n219 Tryz.prog Tryz.lays219_ren := {
 mixed := by kernel_rfl
 f217 := Tryz.func207.trans (congrArg some (by kernel_rfl))
 f219 := Tryz.func186.trans (congrArg some (by kernel_rfl))
 f224 := Tryz.func209.trans (congrArg some (by kernel_rfl))
 f225 := Tryz.func208.trans (congrArg some (by kernel_rfl))
 f266 := Tryz.func220.trans (congrArg some (by kernel_rfl))
 f267 := Tryz.func210.trans (congrArg some (by kernel_rfl))
 f314 := Tryz.func221.trans (congrArg some (by kernel_rfl))
 t3 := Tryz.underlying3
 a3 := Tryz.isAgg3
 z3 := Tryz.sizeOf3
 v3 := Tryz.zeroValue3
 t4 := Tryz.underlying4
 a4 := Tryz.isAgg4
 z4 := Tryz.sizeOf4
 v4 := Tryz.zeroValue4
 t5 := Tryz.underlying5
 a5 := Tryz.isAgg5
 z5 := Tryz.sizeOf5
 v5 := Tryz.zeroValue5
 t9 := Tryz.underlying9
 a9 := Tryz.isAgg9
 z9 := Tryz.sizeOf9
 v9 := Tryz.zeroValue9
 t46 := Tryz.underlying127
 a46 := Tryz.isAgg127
 z46 := Tryz.sizeOf127
 v46 := Tryz.zeroValue127
 t51 := Tryz.underlying184
 a51 := Tryz.isAgg184
 z51 := Tryz.sizeOf184
 v51 := Tryz.zeroValue184
 t146 := Tryz.underlying236
 a146 := Tryz.isAgg236
 z146 := Tryz.sizeOf236
 v146 := Tryz.zeroValue236
 g1 := by kernel_rfl }
open Go.RowKit Go.Lib in
theorem Tryz.stringslite_Index_one (s : ByteArray) (c : UInt8) (w : World) :
  Calls Tryz.prog 186 #[.string s, .string ⟨#[c]⟩] w fun e w' => e = .returned (.int .i64 (Lib.indexByte s.data.toList c)) ∧ w' = w := Any.stringslite_Index_one Tryz.lays219 s c w
def Tryz.laysM171_ren : Go.Shelf.Ren := ⟨fun | 171 => 19 | 243 => 42 | 246 => 81 | 283 => 119 | 284 => 120 | 285 => 121 | 286 => 122 | 129 => 138 | 317 => 162 | 318 => 163 | 319 => 164 | 320 => 165 | 337 => 191 | 338 => 192 | n => n, fun | 3 => 3 | 9 => 9 | 2 => 2 | 4 => 4 | 171 => 159 | 0 => 0 | 53 => 160 | 37 => 163 | 5 => 5 | 173 => 164 | 212 => 216 | 51 => 184 | 20 => 20 | 213 => 217 | 46 => 127 | 232 => 260 | 233 => 261 | n => n, fun | 17 => 1 | 18 => 4 | 19 => 5 | n => n⟩
theorem Tryz.laysM171 : Go.Proofs.LaysM.n171 Tryz.prog Tryz.laysM171_ren := {
 mixed := by kernel_rfl
 f129 := Tryz.func138.trans (congrArg some (by kernel_rfl))
 f171 := Tryz.func19.trans (congrArg some (by kernel_rfl))
 f243 := Tryz.func42.trans (congrArg some (by kernel_rfl))
 f246 := Tryz.func81.trans (congrArg some (by kernel_rfl))
 f283 := Tryz.func119.trans (congrArg some (by kernel_rfl))
 f284 := Tryz.func120.trans (congrArg some (by kernel_rfl))
 f285 := Tryz.func121.trans (congrArg some (by kernel_rfl))
 f286 := Tryz.func122.trans (congrArg some (by kernel_rfl))
 f317 := Tryz.func162.trans (congrArg some (by kernel_rfl))
 f318 := Tryz.func163.trans (congrArg some (by kernel_rfl))
 f319 := Tryz.func164.trans (congrArg some (by kernel_rfl))
 f320 := Tryz.func165.trans (congrArg some (by kernel_rfl))
 f337 := Tryz.func191.trans (congrArg some (by kernel_rfl))
 f338 := Tryz.func192.trans (congrArg some (by kernel_rfl))
 t0 := Tryz.underlying0
 a0 := Tryz.isAgg0
 z0 := Tryz.sizeOf0
 v0 := Tryz.zeroValue0
 t2 := Tryz.underlying2
 a2 := Tryz.isAgg2
 z2 := Tryz.sizeOf2
 v2 := Tryz.zeroValue2
 t3 := Tryz.underlying3
 a3 := Tryz.isAgg3
 z3 := Tryz.sizeOf3
 v3 := Tryz.zeroValue3
 t4 := Tryz.underlying4
 a4 := Tryz.isAgg4
 z4 := Tryz.sizeOf4
 v4 := Tryz.zeroValue4
 t5 := Tryz.underlying5
 a5 := Tryz.isAgg5
 z5 := Tryz.sizeOf5
 v5 := Tryz.zeroValue5
 t9 := Tryz.underlying9
 a9 := Tryz.isAgg9
 z9 := Tryz.sizeOf9
 v9 := Tryz.zeroValue9
 t20 := Tryz.underlying20
 a20 := Tryz.isAgg20
 z20 := Tryz.sizeOf20
 v20 := Tryz.zeroValue20
 t37 := Tryz.underlying163
 a37 := Tryz.isAgg163
 z37 := Tryz.sizeOf163
 v37 := Tryz.zeroValue163
 t46 := Tryz.underlying127
 a46 := Tryz.isAgg127
 z46 := Tryz.sizeOf127
 v46 := Tryz.zeroValue127
 t51 := Tryz.underlying184
 a51 := Tryz.isAgg184
 z51 := Tryz.sizeOf184
 v51 := Tryz.zeroValue184
 t53 := Tryz.underlying160
 a53 := Tryz.isAgg160
 z53 := Tryz.sizeOf160
 v53 := Tryz.zeroValue160
 t171 := Tryz.underlying159
 a171 := Tryz.isAgg159
 z171 := Tryz.sizeOf159
 v171 := Tryz.zeroValue159
 t173 := Tryz.underlying164
 a173 := Tryz.isAgg164
 z173 := Tryz.sizeOf164
 v173 := Tryz.zeroValue164
 t212 := Tryz.underlying216
 a212 := Tryz.isAgg216
 z212 := Tryz.sizeOf216
 v212 := Tryz.zeroValue216
 t213 := Tryz.underlying217
 a213 := Tryz.isAgg217
 z213 := Tryz.sizeOf217
 t232 := Tryz.underlying260
 a232 := Tryz.isAgg260
 z232 := Tryz.sizeOf260
 v232 := Tryz.zeroValue260
 t233 := Tryz.underlying261
 a233 := Tryz.isAgg261
 z233 := Tryz.sizeOf261
 v233 := Tryz.zeroValue261
 g17 := by kernel_rfl
 g18 := by kernel_rfl
 g19 := by kernel_rfl
 i0 := by kernel_rfl
 i2 := by kernel_rfl
 i3 := by kernel_rfl
 i4 := by kernel_rfl
 i5 := by kernel_rfl
 i9 := by kernel_rfl
 i20 := by kernel_rfl
 i37 := by kernel_rfl
 i46 := by kernel_rfl
 i51 := by kernel_rfl
 i53 := by kernel_rfl
 i171 := by kernel_rfl
 i173 := by kernel_rfl
 i212 := by kernel_rfl
 i232 := by kernel_rfl
 i233 := by kernel_rfl
 m17 := by kernel_rfl
 m18 := by kernel_rfl
 m19 := by kernel_rfl }
open Go.RowKit Go.Sort Go.Lib in
theorem Tryz.strconv_Itoa (n : Int) (h0 : -9223372036854775808 ≤ n) (h1 : n ≤ 9223372036854775807) (w : World) (htab : Lib.TabIs Tryz.prog w "internal/strconv.uint64pow10" .u64 Lib.pow10Tab) :
  Calls Tryz.prog 19 #[.int .i64 n] w fun e w' => e = .returned (.string ⟨(Lib.itoa n).toArray⟩) ∧ ∃ k os, w' = grow (w.drewN k) os := Any.strconv_Itoa Tryz.laysM171 n h0 h1 w htab
def Tryz.lays206_ren : Go.Shelf.Ren := ⟨fun | 206 => 82 | n => n, fun | 9 => 9 | 4 => 4 | 3 => 3 | n => n, fun | n => n⟩
theorem Tryz.lays206 : Go.Proofs.Lays.n206 Tryz.prog Tryz.lays206_ren := {
 mixed := by kernel_rfl
 f206 := Tryz.func82.trans (congrArg some (by kernel_rfl))
 t3 := Tryz.underlying3
 a3 := Tryz.isAgg3
 z3 := Tryz.sizeOf3
 v3 := Tryz.zeroValue3
 t4 := Tryz.underlying4
 a4 := Tryz.isAgg4
 z4 := Tryz.sizeOf4
 v4 := Tryz.zeroValue4
 t9 := Tryz.underlying9
 a9 := Tryz.isAgg9
 z9 := Tryz.sizeOf9
 v9 := Tryz.zeroValue9 }
open Go.RowKit Go.Lib in
theorem Tryz.stringslite_HasPrefix (s p : ByteArray) (w : World) :
  Calls Tryz.prog 82 #[.string s, .string p] w fun e w' => e = .returned (.bool (Lib.hasPrefix s.data.toList p.data.toList)) ∧ w' = w := Any.stringslite_HasPrefix Tryz.lays206 s p w
def Tryz.lays172_ren : Go.Shelf.Ren := ⟨fun | 172 => 145 | 244 => 182 | 245 => 183 | 247 => 202 | 279 => 203 | 280 => 204 | 281 => 205 | 282 => 206 | 287 => 217 | 316 => 218 | 171 => 19 | 205 => 219 | 321 => 225 | 322 => 226 | 243 => 42 | 246 => 81 | 283 => 119 | 284 => 120 | 285 => 121 | 286 => 122 | 129 => 138 | 317 => 162 | 318 => 163 | 319 => 164 | 320 => 165 | 337 => 191 | 338 => 192 | n => n, fun | 9 => 9 | 3 => 3 | 75 => 192 | 76 => 193 | 4 => 4 | 5 => 5 | 167 => 250 | 37 => 163 | 0 => 0 | 85 => 251 | 2 => 2 | 168 => 253 | 53 => 160 | 175 => 266 | 46 => 127 | 210 => 269 | 127 => 240 | 145 => 277 | 143 => 275 | 21 => 21 | 171 => 159 | 173 => 164 | 212 => 216 | 51 => 184 | 20 => 20 | 213 => 217 | 232 => 260 | 233 => 261 | 80 => 213 | n => n, fun | 15 => 6 | 16 => 7 | 17 => 1 | 18 => 4 | 19 => 5 | n => n⟩
theorem Tryz.lays172 : Go.Proofs.Lays.n172 Tryz.prog Tryz.lays172_ren := {
 mixed := by kernel_rfl
 f129 := Tryz.func138.trans (congrArg some (by kernel_rfl))
 f171 := Tryz.func19.trans (congrArg some (by kernel_rfl))
 f172 := Tryz.func145.trans (congrArg some (by kernel_rfl))
 f205 := Tryz.func219.trans (congrArg some (by kernel_rfl))
 f243 := Tryz.func42.trans (congrArg some (by kernel_rfl))
 f244 := Tryz.func182.trans (congrArg some (by kernel_rfl))
 f245 := Tryz.func183.trans (congrArg some (by kernel_rfl))
 f246 := Tryz.func81.trans (congrArg some (by kernel_rfl))
 f247 := Tryz.func202.trans (congrArg some (by kernel_rfl))
 f279 := Tryz.func203.trans (congrArg some (by kernel_rfl))
 f280 := Tryz.func204.trans (congrArg some (by kernel_rfl))
 f281 := Tryz.func205.trans (congrArg some (by kernel_rfl))
 f282 := Tryz.func206.trans (congrArg some (by kernel_rfl))
 f283 := Tryz.func119.trans (congrArg some (by kernel_rfl))
 f284 := Tryz.func120.trans (congrArg some (by kernel_rfl))
 f285 := Tryz.func121.trans (congrArg some (by kernel_rfl))
 f286 := Tryz.func122.trans (congrArg some (by kernel_rfl))
 f287 := Tryz.func217.trans (congrArg some (by kernel_rfl))
 f316 := Tryz.func218.trans (congrArg some (by kernel_rfl))
 f317 := Tryz.func162.trans (congrArg some (by kernel_rfl))
 f318 := Tryz.func163.trans (congrArg some (by kernel_rfl))
 f319 := Tryz.func164.trans (congrArg some (by kernel_rfl))
 f320 := Tryz.func165.trans (congrArg some (by kernel_rfl))
 f321 := Tryz.func225.trans (congrArg some (by kernel_rfl))
 f322 := Tryz.func226.trans (congrArg some (by kernel_rfl))
 f337 := Tryz.func191.trans (congrArg some (by kernel_rfl))
 f338 := Tryz.func192.trans (congrArg some (by kernel_rfl))
 t0 := Tryz.underlying0
 a0 := Tryz.isAgg0
 z0 := Tryz.sizeOf0
 v0 := Tryz.zeroValue0
 t2 := Tryz.underlying2
 a2 := Tryz.isAgg2
 z2 := Tryz.sizeOf2
 v2 := Tryz.zeroValue2
 t3 := Tryz.underlying3
 a3 := Tryz.isAgg3
 z3 := Tryz.sizeOf3
 v3 := Tryz.zeroValue3
 t4 := Tryz.underlying4
 a4 := Tryz.isAgg4
 z4 := Tryz.sizeOf4
 v4 := Tryz.zeroValue4
 t5 := Tryz.underlying5
 a5 := Tryz.isAgg5
 z5 := Tryz.sizeOf5
 v5 := Tryz.zeroValue5
 t9 := Tryz.underlying9
 a9 := Tryz.isAgg9
 z9 := Tryz.sizeOf9
 v9 := Tryz.zeroValue9
 t20 := Tryz.underlying20
 a20 := Tryz.isAgg20
 z20 := Tryz.sizeOf20
 v20 := Tryz.zeroValue20
 t21 := Tryz.underlying21
 a21 := Tryz.isAgg21
 z21 := Tryz.sizeOf21
 v21 := Tryz.zeroValue21
 t37 := Tryz.underlying163
 a37 := Tryz.isAgg163
 z37 := Tryz.sizeOf163
 v37 := Tryz.zeroValue163
 t46 := Tryz.underlying127
 a46 := Tryz.isAgg127
 z46 := Tryz.sizeOf127
 v46 := Tryz.zeroValue127
 t51 := Tryz.underlying184
 a51 := Tryz.isAgg184
 z51 := Tryz.sizeOf184
 v51 := Tryz.zeroValue184
 t53 := Tryz.underlying160
 a53 := Tryz.isAgg160
 z53 := Tryz.sizeOf160
 v53 := Tryz.zeroValue160
 t75 := Tryz.underlying192
 a75 := Tryz.isAgg192
 z75 := Tryz.sizeOf192
 v75 := Tryz.zeroValue192
 t76 := Tryz.underlying193
 a76 := Tryz.isAgg193
 z76 := Tryz.sizeOf193
 v76 := Tryz.zeroValue193
 t85 := Tryz.underlying251
 a85 := Tryz.isAgg251
 z85 := Tryz.sizeOf251
 v85 := Tryz.zeroValue251
 t127 := Tryz.underlying240
 a127 := Tryz.isAgg240
 z127 := Tryz.sizeOf240
 v127 := Tryz.zeroValue240
 t143 := Tryz.underlying275
 a143 := Tryz.isAgg275
 z143 := Tryz.sizeOf275
 v143 := Tryz.zeroValue275
 t145 := Tryz.underlying277
 a145 := Tryz.isAgg277
 z145 := Tryz.sizeOf277
 v145 := Tryz.zeroValue277
 t167 := Tryz.underlying250
 a167 := Tryz.isAgg250
 z167 := Tryz.sizeOf250
 v167 := Tryz.zeroValue250
 t168 := Tryz.underlying253
 a168 := Tryz.isAgg253
 z168 := Tryz.sizeOf253
 v168 := Tryz.zeroValue253
 t171 := Tryz.underlying159
 a171 := Tryz.isAgg159
 z171 := Tryz.sizeOf159
 v171 := Tryz.zeroValue159
 t173 := Tryz.underlying164
 a173 := Tryz.isAgg164
 z173 := Tryz.sizeOf164
 v173 := Tryz.zeroValue164
 t175 := Tryz.underlying266
 a175 := Tryz.isAgg266
 z175 := Tryz.sizeOf266
 v175 := Tryz.zeroValue266
 t210 := Tryz.underlying269
 a210 := Tryz.isAgg269
 z210 := Tryz.sizeOf269
 v210 := Tryz.zeroValue269
 t212 := Tryz.underlying216
 a212 := Tryz.isAgg216
 z212 := Tryz.sizeOf216
 v212 := Tryz.zeroValue216
 t213 := Tryz.underlying217
 a213 := Tryz.isAgg217
 z213 := Tryz.sizeOf217
 t232 := Tryz.underlying260
 a232 := Tryz.isAgg260
 z232 := Tryz.sizeOf260
 v232 := Tryz.zeroValue260
 t233 := Tryz.underlying261
 a233 := Tryz.isAgg261
 z233 := Tryz.sizeOf261
 v233 := Tryz.zeroValue261
 g15 := by kernel_rfl
 g16 := by kernel_rfl
 g17 := by kernel_rfl
 g18 := by kernel_rfl
 g19 := by kernel_rfl }
open Go.RowKit in
theorem Tryz.strconv_Atoi (s : ByteArray) (n : Int) (hl : s.size ≤ 18) (h : Lib.atoi s.data.toList = some n) (w : World) :
  Calls Tryz.prog 145 #[.string s] w fun e w' => e = .returned (.tuple #[.int .i64 n, .nilIface]) ∧ ∃ t, w' = Lib.bytesWorld w 5 t := Any.strconv_Atoi Tryz.lays172 s n hl h w
def Tryz.lays125_ren : Go.Shelf.Ren := ⟨fun | 125 => 88 | 128 => 137 | 129 => 138 | n => n, fun | 46 => 127 | 3 => 3 | 51 => 184 | 53 => 160 | 4 => 4 | 5 => 5 | 9 => 9 | n => n, fun | n => n⟩
theorem Tryz.lays125 : Go.Proofs.Lays.n125 Tryz.prog Tryz.lays125_ren := {
 mixed := by kernel_rfl
 f125 := Tryz.func88.trans (congrArg some (by kernel_rfl))
 f128 := Tryz.func137.trans (congrArg some (by kernel_rfl))
 f129 := Tryz.func138.trans (congrArg some (by kernel_rfl))
 t3 := Tryz.underlying3
 a3 := Tryz.isAgg3
 z3 := Tryz.sizeOf3
 v3 := Tryz.zeroValue3
 t4 := Tryz.underlying4
 a4 := Tryz.isAgg4
 z4 := Tryz.sizeOf4
 v4 := Tryz.zeroValue4
 t5 := Tryz.underlying5
 a5 := Tryz.isAgg5
 z5 := Tryz.sizeOf5
 v5 := Tryz.zeroValue5
 t9 := Tryz.underlying9
 a9 := Tryz.isAgg9
 z9 := Tryz.sizeOf9
 v9 := Tryz.zeroValue9
 t46 := Tryz.underlying127
 a46 := Tryz.isAgg127
 z46 := Tryz.sizeOf127
 v46 := Tryz.zeroValue127
 t51 := Tryz.underlying184
 a51 := Tryz.isAgg184
 z51 := Tryz.sizeOf184
 v51 := Tryz.zeroValue184
 t53 := Tryz.underlying160
 a53 := Tryz.isAgg160
 z53 := Tryz.sizeOf160
 v53 := Tryz.zeroValue160 }
theorem Tryz.bits_Len (x : Int) (w : World) (h0 : 0 ≤ x) (h1 : x ≤ 18446744073709551615) :
  Calls Tryz.prog 88 #[.int .u64 x] w fun e w' => e = .returned (.int .i64 (Lib.bitLen x.toNat)) ∧ w' = w := Any.bits_Len Tryz.lays125 x w h0 h1
def Tryz.lays160_ren : Go.Shelf.Ren := ⟨fun | 160 => 181 | 232 => 196 | 231 => 195 | 227 => 197 | 234 => 199 | 233 => 198 | 236 => 201 | 235 => 200 | 228 => 213 | 271 => 216 | 151 => 215 | 197 => 214 | 120 => 224 | 152 => 223 | 260 => 222 | 137 => 227 | 119 => 228 | 224 => 209 | 225 => 208 | 217 => 207 | 266 => 220 | n => n, fun | 9 => 9 | 4 => 4 | 3 => 3 | 5 => 5 | 117 => 246 | 116 => 245 | 0 => 0 | 124 => 249 | 21 => 21 | 105 => 263 | 46 => 127 | 119 => 278 | 139 => 281 | 138 => 280 | n => n, fun | 3 => 8 | 4 => 9 | n => n⟩
theorem Tryz.lays160 : Go.Proofs.Lays.n160 Tryz.prog Tryz.lays160_ren := {
 mixed := by kernel_rfl
 f119 := Tryz.func228.trans (congrArg some (by kernel_rfl))
 f120 := Tryz.func224.trans (congrArg some (by kernel_rfl))
 f137 := Tryz.func227.trans (congrArg some (by kernel_rfl))
 f151 := Tryz.func215.trans (congrArg some (by kernel_rfl))
 f152 := Tryz.func223.trans (congrArg some (by kernel_rfl))
 f160 := Tryz.func181.trans (congrArg some (by kernel_rfl))
 f197 := Tryz.func214.trans (congrArg some (by kernel_rfl))
 f217 := Tryz.func207.trans (congrArg some (by kernel_rfl))
 f224 := Tryz.func209.trans (congrArg some (by kernel_rfl))
 f225 := Tryz.func208.trans (congrArg some (by kernel_rfl))
 f227 := Tryz.func197.trans (congrArg some (by kernel_rfl))
 f228 := Tryz.func213.trans (congrArg some (by kernel_rfl))
 f231 := Tryz.func195.trans (congrArg some (by kernel_rfl))
 f232 := Tryz.func196.trans (congrArg some (by kernel_rfl))
 f233 := Tryz.func198.trans (congrArg some (by kernel_rfl))
 f234 := Tryz.func199.trans (congrArg some (by kernel_rfl))
 f235 := Tryz.func200.trans (congrArg some (by kernel_rfl))
 f236 := Tryz.func201.trans (congrArg some (by kernel_rfl))
 f260 := Tryz.func222.trans (congrArg some (by kernel_rfl))
 f266 := Tryz.func220.trans (congrArg some (by kernel_rfl))
 f271 := Tryz.func216.trans (congrArg some (by kernel_rfl))
 t0 := Tryz.underlying0
 a0 := Tryz.isAgg0
 z0 := Tryz.sizeOf0
 v0 := Tryz.zeroValue0
 t3 := Tryz.underlying3
 a3 := Tryz.isAgg3
 z3 := Tryz.sizeOf3
 v3 := Tryz.zeroValue3
 t4 := Tryz.underlying4
 a4 := Tryz.isAgg4
 z4 := Tryz.sizeOf4
 v4 := Tryz.zeroValue4
 t5 := Tryz.underlying5
 a5 := Tryz.isAgg5
 z5 := Tryz.sizeOf5
 v5 := Tryz.zeroValue5
 t9 := Tryz.underlying9
 a9 := Tryz.isAgg9
 z9 := Tryz.sizeOf9
 v9 := Tryz.zeroValue9
 t21 := Tryz.underlying21
 a21 := Tryz.isAgg21
 z21 := Tryz.sizeOf21
 v21 := Tryz.zeroValue21
 t46 := Tryz.underlying127
 a46 := Tryz.isAgg127
 z46 := Tryz.sizeOf127
 v46 := Tryz.zeroValue127
 t105 := Tryz.underlying263
 a105 := Tryz.isAgg263
 z105 := Tryz.sizeOf263
 v105 := Tryz.zeroValue263
 t116 := Tryz.underlying245
 a116 := Tryz.isAgg245
 z116 := Tryz.sizeOf245
 t117 := Tryz.underlying246
 a117 := Tryz.isAgg246
 z117 := Tryz.sizeOf246
 v117 := Tryz.zeroValue246
 t119 := Tryz.underlying278
 a119 := Tryz.isAgg278
 z119 := Tryz.sizeOf278
 t124 := Tryz.underlying249
 a124 := Tryz.isAgg249
 z124 := Tryz.sizeOf249
 v124 := Tryz.zeroValue249
 t138 := Tryz.underlying280
 a138 := Tryz.isAgg280
 z138 := Tryz.sizeOf280
 v138 := Tryz.zeroValue280
 t139 := Tryz.underlying281
 a139 := Tryz.isAgg281
 z139 := Tryz.sizeOf281
 v139 := Tryz.zeroValue281
 g3 := by kernel_rfl
 g4 := by kernel_rfl }
end Go.Proofs

namespace Go.Te
open Go Go.Sx Go.Proofs Go.Ar Go.RowKit
set_option maxRecDepth 100000
set_option maxHeartbeats 4000000
theorem mixed : Tryz.prog.follows .mixedOrders = true := by kernel_rfl
abbrev T0 : Tb := Xh []
def sH : List AV → Option (List zN × AV)
 | [.str s, .str [c]] => some ([], .i (Lib.indexByte s c))
 | _ => none
theorem Nw : zP Tryz.prog [] 186 sH := by
 intro xs ps r h hp
 unfold sH at h
 split at h
 ·rename_i s c
  cases h
  refine ⟨enters_of Tryz.func186 (by kernel_rfl) rfl, fun w S vals hS hg hr => ?_⟩
  match vals, hr with
  | [v, v2], ⟨hv, hv2, _⟩ =>
  obtain rfl := Z6 hv
  obtain rfl := Z6 hv2
  refine (Tryz.stringslite_Index_one ⟨s.toArray⟩ c w).mono ?_
  rintro e w' ⟨rfl, rfl⟩
  exact ⟨⟨Below.refl _ _, Nat.le_refl _⟩, _, rfl, .v _⟩
 ·cases h
theorem zu.mono {P : Program} {G : List (Nat × Obj)} {f : FuncId} {xs : List AV} {r : AV} (h : zu P [] f xs r) : zu P G f xs r :=
 ⟨h.1, fun w S vals hS _ hr => h.2 w S vals hS (fun b o hbo => by cases hbo) hr⟩
theorem yO.mono {P : Program} {G : List (Nat × Obj)} {f : FuncId} {xs : List AV} {t : TypeId} {sz len : Nat} {els : Nat → Nat → AV} (h : yO P [] f xs t sz len els) : yO P G f xs t sz len els :=
 ⟨h.1, fun w S vals hS _ hr => h.2 w S vals hS (fun b o hbo => by cases hbo) hr⟩
theorem zP.mono {P : Program} {G : List (Nat × Obj)} {f : FuncId} {t : List AV → Option (List zN × AV)} (h : zP P [] f t) : zP P G f t := fun xs ps r e hp => zu.mono (h xs ps r e hp)
theorem Uq.mono {P : Program} {G : List (Nat × Obj)} {f : FuncId} {t : List AV → Option (List zN × TypeId × Nat × Nat × (Nat → Nat → AV))} (h : Uq P [] f t) : Uq P G f t := fun xs ps ty sz len els e hp => yO.mono (h xs ps ty sz len els e hp)
def zL : Array Value := #[.string ⟨#[50]⟩, .string ⟨#[51]⟩, .string ⟨#[53]⟩, .string ⟨#[55]⟩, .string ⟨#[49, 49]⟩, .string ⟨#[49, 51]⟩, .string ⟨#[49, 55]⟩, .string ⟨#[49, 57]⟩, .string ⟨#[50, 51]⟩, .string ⟨#[50, 57]⟩, .string ⟨#[51, 49]⟩, .string ⟨#[51, 55]⟩, .string ⟨#[52, 49]⟩, .string ⟨#[52, 51]⟩, .string ⟨#[52, 55]⟩, .string ⟨#[53, 51]⟩, .string ⟨#[53, 57]⟩, .string ⟨#[54, 49]⟩, .string ⟨#[54, 55]⟩, .string ⟨#[55, 49]⟩, .string ⟨#[55, 51]⟩, .string ⟨#[55, 57]⟩, .string ⟨#[56, 51]⟩, .string ⟨#[56, 57]⟩, .string ⟨#[57, 55]⟩]
def zO (G : List (Nat × Obj)) : Prop :=
 (∃ g t fr, Tryz.prog.globalNamed "internal/strconv.uint64pow10" = some g ∧ (g, Obj.cells (Lib.pow10Tab.map fun z => Value.int .u64 z).toArray t fr) ∈ G) ∧
 ∃ t fr G', G = (2, Obj.cells zL t fr) :: G'
def pS : List AV → Option (List zN × AV)
 | [.v (.int .i64 n)] => some ([.p (yD .i64 n)], .str (Lib.itoa n))
 | _ => none
theorem IQ {G : List (Nat × Obj)} (hG : zO G) : zP Tryz.prog G 19 pS := by
 intro xs ps r h hp
 unfold pS at h
 split at h
 ·rename_i n
  cases h
  have hn : yD .i64 n := hp _ List.mem_cons_self
  simp only [yD] at hn
  refine ⟨enters_of Tryz.func19 (by kernel_rfl) rfl, fun w S vals hS hg hr => ?_⟩
  match vals, hr with
  | [v], ⟨hv, _⟩ =>
  obtain rfl := ZR hv
  obtain ⟨⟨g, t, fr, hname, hmem⟩, _⟩ := hG
  have htab : Lib.TabIs Tryz.prog w "internal/strconv.uint64pow10" .u64 Lib.pow10Tab := by
   unfold Lib.TabIs World.var?
   rw [hname]
   simp only [Option.bind_some, (hg _ _ hmem).2]
  refine (Tryz.strconv_Itoa n hn.1 hn.2 w htab).mono ?_
  rintro e w' ⟨rfl, k, os, rfl⟩
  exact ⟨⟨⟨rfl, rfl, rfl, by simp [Go.Sort.grow, World.drewN], fun b hb => by simp [Go.Sort.grow, World.drewN, Array.getElem?_append, hb]⟩, by simp [dn, Go.Sort.grow, World.drewN]⟩, _, rfl, .str _⟩
 ·cases h
noncomputable def KR (G : List (Nat × Obj)) : Tb := (Xh G).plus 19 pS
theorem YF {G : List (Nat × Obj)} (hG : zO G) : zz Tryz.prog (KR G) := zz.plus zq (IQ hG)
def j5 : List AV → Option (List zN × AV)
 | [.str s, .str p] => some ([], .b (Lib.hasPrefix s p))
 | _ => none
theorem Gy : zP Tryz.prog [] 82 j5 := by
 intro xs ps r h hp
 unfold j5 at h
 split at h
 ·rename_i s p
  cases h
  refine ⟨enters_of Tryz.func82 (by kernel_rfl) rfl, fun w S vals hS hg hr => ?_⟩
  match vals, hr with
  | [v, v2], ⟨hv, hv2, _⟩ =>
  obtain rfl := Z6 hv
  obtain rfl := Z6 hv2
  refine (Tryz.stringslite_HasPrefix ⟨s.toArray⟩ ⟨p.toArray⟩ w).mono ?_
  rintro e w' ⟨rfl, rfl⟩
  exact ⟨⟨Below.refl _ _, Nat.le_refl _⟩, _, rfl, .v _⟩
 ·cases h
theorem qK (s : zj) : Lib.hasPrefix s [45] = zk s := by
 unfold Lib.hasPrefix zk
 match s with
 | [] => rfl
 | c :: r => simp [List.isPrefixOf, Bool.beq_comm]
noncomputable def gP : Tb := (T0.plus 82 j5).body Tryz.prog [(142, .auto), (175, .auto)]
theorem VK : zz Tryz.prog gP := zz.body mixed (zz.plus zq Gy) _
def Yl (g : zj → AV) : List AV → Option (List zN × AV)
 | [.str s, .str p] => some ([.b (p == [45])], g s)
 | _ => none
theorem QO {f : FuncId} {g : zj → AV} (hf : ∀ s : zj, zu Tryz.prog [] f [.str s, .str [45]] (g s)) : zP Tryz.prog [] f (Yl g) := by
 intro xs ps r h hp
 unfold Yl at h
 split at h
 ·rename_i s p
  cases h
  have q : (p == [45]) = true := hp _ List.mem_cons_self
  obtain rfl := eq_of_beq q
  exact hf s
 ·cases h
theorem pK {s : zj} (h : zk s = true) : s.drop 1 = zQ s ∧ 1 ≤ s.length := by
 refine ⟨by unfold zQ; rw [h]; rfl, ?_⟩
 match s, h with
 | [], h => cases h
 | c :: r, _ => simp
theorem sB {s : zj} (h : zk s = false) : s = zQ s := by unfold zQ; rw [h]; rfl
theorem MS (s : zj) :
 Zy [AV.str s, AV.str [(45 : UInt8)]] → zZ (Lib.hasPrefix s [(45 : UInt8)]) (bF (DB.db (iZ ≤ (↑1 : Int) ∧ (↑1 : Int) ≤ (lZ s))) (List.drop 1 s = zQ s)) (s = zQ s) := by
 delta bF lZ iZ
 intro hb
 simp only [sS, dS, qK]
 refine zX.2 ⟨fun c => ?_, fun c => sB c⟩
 obtain ⟨h1, h2⟩ := pK c
 exact ⟨⟨by omega, by omega⟩, h1⟩
theorem kS (s : zj) :
 Zy [AV.str s, AV.str [(45 : UInt8)]] → zZ (!Lib.hasPrefix s [(45 : UInt8)]) (j2 ∧ (True ∧ s = zQ s) ∧ false = zk s) (bF (DB.db (iZ ≤ (↑1 : Int) ∧ (↑1 : Int) ≤ (lZ s))) (j2 ∧ (True ∧ List.drop 1 s = zQ s) ∧ true = zk s)) := by
 delta bF j2 lZ iZ
 intro hb
 simp only [sS, dS, qK]
 refine zX.2 ⟨fun c => ?_, fun c => ?_⟩
 ·rw [Bool.not_eq_true'] at c
  exact ⟨rfl, sB c, c.symm⟩
 ·rw [Bool.not_eq_false'] at c
  obtain ⟨h1, h2⟩ := pK c
  exact ⟨⟨by omega, by omega⟩, rfl, h1, c.symm⟩
theorem Kw (s : zj) :
 Zy [AV.str s, AV.str [(45 : UInt8)]] → Lib.hasPrefix s [(45 : UInt8)] = zk s := by
 intro hb
 simp only [sS, dS, qK]
theorem vI : zP Tryz.prog [] 95 (Yl fun s => .str (zQ s)) :=
 QO fun s => zv mixed VK (Eq.mp (by kernel_rfl) (MS s) : vm Tryz.prog gP 95 .auto [.str s, .str [45]] (.str (zQ s)))
theorem Qy : zP Tryz.prog [] 140 (Yl fun s => .tup 2 (zw [.str (zQ s), .b (zk s)])) :=
 QO fun s => zv mixed VK (Eq.mp (by kernel_rfl) (kS s) : vm Tryz.prog gP 140 .auto [.str s, .str [45]] (.tup 2 (zw [.str (zQ s), .b (zk s)])))
theorem rp : zP Tryz.prog [] 44 (Yl fun s => .b (zk s)) :=
 QO fun s => zv mixed VK (Eq.mp (by kernel_rfl) (Kw s) : vm Tryz.prog gP 44 .auto [.str s, .str [45]] (.b (zk s)))
def vA : zj := [48, 49, 50, 51, 52, 53, 54, 55, 56, 57]
theorem NX (c : UInt8) : vA.contains c = Zc c := by
 have key : ∀ n : Fin 256, vA.contains (UInt8.ofNat n.val) = Zc (UInt8.ofNat n.val) := by decide +kernel
 have := key ⟨c.toNat, c.toNat_lt⟩
 simpa using this
theorem WL {p : UInt8 → Bool} : ∀ {l : zj}, l.dropWhile p = [] ↔ l.all p = true
 | [] => by simp
 | c :: r => by
  rw [List.dropWhile_cons, List.all_cons]
  cases h : p c with
  | true => simp only [if_true, Bool.true_and]; exact WL
  | false => simp
theorem tQ {p : UInt8 → Bool} : ∀ {l : zj} {c : UInt8} {r : zj}, l.dropWhile p = c :: r → p c = false
 | [], _, _, h => by cases h
 | x :: l, c, r, h => by
  rw [List.dropWhile_cons] at h
  cases hx : p x with
  | true => rw [hx, if_pos rfl] at h; exact tQ h
  | false => rw [hx] at h; simp only [Bool.false_eq_true, if_false, List.cons.injEq] at h; rw [← h.1]; exact hx
theorem O4 (s : zj) : (Lib.trimS s vA == []) = s.all Zc := by
 have hp : (fun c => vA.contains c) = Zc := funext NX
 unfold Lib.trimS Lib.trimLeftS Lib.trimRightS
 rw [hp, Bool.eq_iff_iff, beq_iff_eq, WL, List.all_reverse]
 constructor
 ·intro h
  rw [← List.all_reverse, ← WL]
  cases hd : s.reverse.dropWhile Zc with
  | nil => rfl
  | cons c r =>
   rw [hd, List.all_cons, tQ hd] at h
   cases h
 ·intro h
  rw [WL.2 (by rw [List.all_reverse]; exact h)]
  rfl
def QM : List AV → Option (List zN × AV)
 | [.str s, .str c] => some ([.b (c == vA), .p (s.length ≤ 4294967280)], .str (Lib.trimS s vA))
 | _ => none
theorem IL : zP Tryz.prog [] 181 QM := by
 intro xs ps r h hp
 unfold QM at h
 split at h
 ·rename_i s c
  cases h
  have q : (c == vA) = true := hp _ List.mem_cons_self
  have hl : s.length ≤ 4294967280 := hp _ (List.mem_cons_of_mem _ List.mem_cons_self)
  obtain rfl := eq_of_beq q
  refine ⟨enters_of Tryz.func181 (by kernel_rfl) rfl, fun w S vals hS hg hr => ?_⟩
  match vals, hr with
  | [v, v2], ⟨hv, hv2, _⟩ =>
  obtain rfl := Z6 hv
  obtain rfl := Z6 hv2
  have hsz : (⟨s.toArray⟩ : ByteArray).size = s.length := rfl
  by_cases h0 : s.length = 0
  ·refine (Any.strings_Trim_empty Tryz.lays160 ⟨s.toArray⟩ ⟨vA.toArray⟩ w (.inl h0)).mono ?_
   rintro e w' ⟨rfl, rfl⟩
   have he : s = [] := List.eq_nil_of_length_eq_zero h0
   subst he
   exact ⟨⟨Below.refl _ _, Nat.le_refl _⟩, _, rfl, .str _⟩
  ·refine (Any.strings_Trim_set Tryz.lays160 (by intro w; kernel_rfl) (by kernel_rfl) ⟨s.toArray⟩ ⟨vA.toArray⟩ w (by decide) (by omega) (by omega) (by decide) (by
    intro j b hj
    have : b ∈ vA := List.mem_of_getElem? hj
    revert this
    exact (show ∀ x ∈ vA, x.toNat < 128 by decide) b)).mono ?_
   rintro e w' ⟨rfl, q, rfl⟩
   refine ⟨⟨⟨rfl, rfl, rfl, ?_, fun b hb => ?_⟩, jT (Nat.le_add_right _ _)⟩, _, rfl, .str _⟩
   ·show w.heap.size ≤ ((w.heap.push _).push _).size
    rw [Array.size_push, Array.size_push]; omega
   ·show ((w.heap.push _).push _)[b]? = _
    rw [Array.getElem?_push, if_neg (by rw [Array.size_push]; omega), Array.getElem?_push, if_neg (by omega)]
 ·cases h
theorem RD {c : UInt8} (h : Zc c = true) : Lib.digitVal c = some (vE c) := by
 have key : ∀ n : Fin 256, Zc (UInt8.ofNat n.val) = true → Lib.digitVal (UInt8.ofNat n.val) = some (vE (UInt8.ofNat n.val)) := by decide +kernel
 have := key ⟨c.toNat, c.toNat_lt⟩
 simp only [UInt8.ofNat_toNat] at this
 exact this h
theorem Ur : ∀ {l : zj} (a : Nat), (∀ c ∈ l, Zc c = true) → Lib.decFrom a l = some (a * 10 ^ l.length + zD l)
 | [], a, _ => by simp [Lib.decFrom, zD]
 | c :: r, a, h => by
  unfold Lib.decFrom
  rw [RD (h c List.mem_cons_self)]
  simp only
  rw [Ur _ fun x hx => h x (List.mem_cons_of_mem _ hx), xy, List.length_cons, Nat.pow_succ, Nat.add_mul]
  congr 1
  rw [Nat.mul_assoc, Nat.mul_comm 10, Nat.add_assoc]
theorem TC {l : zj} (h : Z8 l = true) : Lib.decNat l = some (zD l) := by
 obtain ⟨h1, h2, _⟩ := ZS.1 h
 unfold Lib.decNat
 rw [show l.isEmpty = false by cases l with | nil => cases h1 | cons c r => rfl]
 simp only [Bool.false_eq_true, if_false]
 rw [Ur 0 h2, Nat.zero_mul, Nat.zero_add]
theorem MB {s : zj} (h : ZY s = true) : Lib.atoi s = some (zY s) := by
 rcases yI h with ⟨r, rfl, h1, _, h3⟩ | ⟨h1, h3⟩
 ·rw [h3]
  show (Lib.decNat r).map (fun (m : Nat) => -(m : Int)) = _
  rw [TC h1]; rfl
 ·rw [h3]
  obtain ⟨h4, h5, _⟩ := ZS.1 h1
  match s, h4, h5, h1 with
  | c :: r, _, h5, h1 =>
   have hc := y8.1 (h5 c List.mem_cons_self)
   show (if c == 45 then _ else if c == 43 then _ else (Lib.decNat (c :: r)).map fun (m : Nat) => (m : Int)) = _
   rw [if_neg (by rw [beq_iff_eq]; intro e; subst e; exact absurd hc.1 (by decide)), if_neg (by rw [beq_iff_eq]; intro e; subst e; exact absurd hc.1 (by decide)), TC h1]; rfl
def Vk : List AV → Option (List zN × AV)
 | [.str s] => some ([.b (ZY s), .p (s.length ≤ 18)], .tup 2 (zw [.i (zY s), .v .nilIface]))
 | _ => none
theorem So : zP Tryz.prog [] 145 Vk := by
 intro xs ps r h hp
 unfold Vk at h
 split at h
 ·rename_i s
  cases h
  have q : ZY s = true := hp _ List.mem_cons_self
  have hl : s.length ≤ 18 := hp _ (List.mem_cons_of_mem _ List.mem_cons_self)
  refine ⟨enters_of Tryz.func145 (by kernel_rfl) rfl, fun w S vals hS hg hr => ?_⟩
  match vals, hr with
  | [v], ⟨hv, _⟩ =>
  obtain rfl := Z6 hv
  refine (Tryz.strconv_Atoi ⟨s.toArray⟩ (zY s) hl (MB q) w).mono ?_
  rintro e w' ⟨rfl, t, rfl⟩
  refine ⟨⟨⟨?_, ?_, ?_, by rw [Lib.bytesWorld_size]; omega, fun b hb => Lib.bytesWorld_at_old w 5 t b hb⟩, ?_⟩, _, rfl, ?_⟩
  ·rfl
  ·rfl
  ·rfl
  ·exact sP w 1
  ·exact .tup _ rfl fun i hi => by
    match i, hi with
    | 0, _ => exact .v _
    | 1, _ => exact .v _
 ·cases h
end Go.Te

namespace Go.Te
open Go Go.Sx Go.Proofs Go.Ar Go.RowKit
set_option maxRecDepth 100000
set_option maxHeartbeats 4000000
theorem SO (a : zj) : ZY a = !(zQ a == [] || (zQ a).getD 0 0 == 48 && !(a == [48]) || !(zQ a).all Zc) ∧ X2 a = (zQ a).length := by
 match a with
 | [] => exact ⟨rfl, rfl⟩
 | c :: r =>
  by_cases hc : c = 45
  ·subst hc
   have h1 := TI (a := 45 :: r) (by simp) rfl
   have ho : zQ (45 :: r) = r := rfl
   rw [ho, h1.2.1, h1.2.2.1]
   refine ⟨?_, by simp⟩
   show (Z8 r && !(r == [48])) = _
   rw [show ((45 :: r : zj) == [48]) = false from rfl]
   unfold Z8
   match r with
   | [] => rfl
   | [d] =>
    cases hd : Zc d <;> cases h48 : d == 48 <;> simp_all
   | d :: e :: t =>
    simp only [List.length_cons, List.getD_cons_zero, Bool.not_false, Bool.and_true]
    rw [(ZX _ _).2 (by omega), (ZX _ _).2 (by omega), show ((d :: e :: t : zj) == []) = false from rfl, show ((d :: e :: t : zj) == [48]) = false by simp]
    cases (d :: e :: t).all Zc <;> cases d == 48 <;> rfl
  ·have hm : zk (c :: r) = false := beq_eq_false_iff_ne.2 hc
   have ho : zQ (c :: r) = c :: r := by unfold zQ; rw [hm]; rfl
   obtain ⟨h1, h2, _⟩ := Wn (a := c :: r) fun h => hc h.2
   rw [ho, h1, h2]
   refine ⟨?_, rfl⟩
   unfold Z8
   match r with
   | [] =>
    cases hd : Zc c <;> cases h48 : c == 48 <;> simp_all
    rfl
   | e :: t =>
    simp only [List.length_cons, List.getD_cons_zero]
    rw [(ZX _ _).2 (by omega), (ZX _ _).2 (by omega), show ((c :: e :: t : zj) == []) = false from rfl, show ((c :: e :: t : zj) == [48]) = false by simp]
    cases (c :: e :: t).all Zc <;> cases c == 48 <;> rfl
noncomputable def Gc : Tb := (T0.plus 95 (Yl fun s => .str (zQ s))).plus 181 QM
theorem Of : zz Tryz.prog Gc := zz.plus (zz.plus zq vI) IL
def Vy : List AV → Option (List zN × AV)
 | [.str a] => some ([.p (a.length ≤ 4294967280)], .i (ZQ a))
 | _ => none
theorem OX (a : List UInt8) (hl : a.length ≤ 4294967280) :
 let q2 := (zQ a == bA #[]); let q1 := (!zr false q2 || zr false q2); let q4 := (cI (UInt8.toNat (gD (zQ a) 0 (0 : UInt8)))); let q3 := (q4 == (48 : Int)); let q7 := (ByteArray.data (ByteArray.mk #[(48 : UInt8)])); let q6 := (bif zQ a == bA #[] then true else bif q4 == (48 : Int) then !a == Array.toList q7 else false); let q5 := (!zr false q6 || zr false q6); Zy [AV.str a] → bF q1 (zZ (!zr false q2 || DB.db (iZ ≤ iZ ∧ iZ < (lZ (zQ a))))
 (bF q1 (bF q1 (bF (!(zr false q2 && zr true q3) || zr false q2 && zr true q3) (bF q1 (bF (!zr false q2 || (!q4 == (48 : Int) || zr false q2 && zr true q3)) (bF (!!zQ a == bA #[] || zr false q2) (bF q5 (zZ (!zr false q6 || bA #[(48 : UInt8), (49 : UInt8), (50 : UInt8), (51 : UInt8), (52 : UInt8), (53 : UInt8), (54 : UInt8), (55 : UInt8), (56 : UInt8), (57 : UInt8)] == vA) ((zr false q6 = true → lN (zQ a) ≤ nM) ∧ bF q5 (bF ((!!bif
 zQ a == bA #[] then true else bif q4 == (48 : Int) then !a == Array.toList q7 else false) || zr false q6) (zZ (bif bif zQ a == bA #[] then true else bif q4 == (48 : Int) then !a == Array.toList q7 else false then true else !Lib.trimS (zQ a) vA == bA #[]) (kI ∧ (11 : Int) = ZQ a) (zZ (zG (300 : Int) (lZ (zQ a))) (kI ∧ (4 : Int) = ZQ a) (kI ∧ iZ = ZQ a)))))
 False)))))))) False) := by
 delta bF bA nM cI kI lZ lN gD iZ
 dsimp only
 intro hb
 simp only [sS, dS]
 have h48 : ((((zQ a).getD 0 0).toNat : Int) == 48) = ((zQ a).getD 0 0 == 48) := vO ((zQ a).getD 0 0) 48 (by decide)
 obtain ⟨hI, hL⟩ := SO a
 have hol := uA a
 rw [show (([48, 49, 50, 51, 52, 53, 54, 55, 56, 57] : zj) == vA) = true from rfl, O4, h48]
 have e1 : (!(zQ a == [])) = true → 0 < (zQ a).length := fun h => by
  match hs : zQ a, h with
  | c :: r, _ => simp
 refine ⟨fun h => ⟨Int.le_refl _, by have := e1 h; omega⟩, ?_⟩
 refine te (by cases zQ a == [] <;> cases (zQ a).getD 0 0 == 48 <;> rfl) ?_
 refine te (by cases zQ a == [] <;> cases (zQ a).getD 0 0 == 48 <;> cases a == [48] <;> rfl) ?_
 refine ⟨fun _ => by omega, zX.2 ⟨fun c => ?_, fun c => ?_⟩⟩
 ·rw [c] at hI
  exact (mM (by rw [hI]; decide)).symm
 ·rw [c] at hI
  rw [Lr hI, hL]
  refine ⟨fun h => ?_, fun h => ?_⟩
  ·rw [(ZX _ _).2 (by omega)]; rfl
  ·rw [show Nat.blt 300 (zQ a).length = false from Bool.eq_false_iff.2 fun e => by have := (ZX _ _).1 e; omega]; rfl
theorem nP (a : List UInt8) (hl : a.length ≤ 4294967280) : zu Tryz.prog [] 144 [.str a] (.i (ZQ a)) :=
 zv (T := Gc) (an := .auto) mixed Of (Eq.mp (by kernel_rfl) (OX a hl))
theorem Rl : zP Tryz.prog [] 144 Vy := by
 intro xs ps r h hp
 unfold Vy at h
 split at h
 ·skip
  rename_i a
  cases h
  obtain ⟨q0, -⟩ := Zo hp
  exact weaken (ys := [.str a]) ⟨zV _, trivial⟩ (nP a q0)
 ·cases h
def sd : List AV → Option (List zN × AV)
 | [.str a, .str b] => some ([.p (a.length ≤ 4294967280), .p (b.length ≤ 4294967280)], .i (zc a b))
 | _ => none
theorem Mu (a : List UInt8) (b : List UInt8) (hl : a.length ≤ 4294967280) (hm : b.length ≤ 4294967280) :
 Zy [AV.str a, AV.str b] → lN a ≤ nM ∧ zZ (ZQ a != iZ) (kI ∧ ZQ a = zc a b) (lN b ≤ nM ∧ kI ∧ ZQ b = zc a b) := by
 delta nM kI lN iZ
 intro hb
 simp only [sS, dS]
 exact ⟨hl, fun h => by unfold zc; rw [bne_iff_ne.2 h]; rfl, fun h => ⟨hm, by unfold zc; rw [h]; rfl⟩⟩
theorem Kl (a : List UInt8) (b : List UInt8) (hl : a.length ≤ 4294967280) (hm : b.length ≤ 4294967280) : zu Tryz.prog [] 97 [.str a, .str b] (.i (zc a b)) :=
 zv (T := T0.plus 144 Vy) (an := .auto) mixed (zz.plus zq Rl) (Eq.mp (by kernel_rfl) (Mu a b hl hm))
theorem Le : zP Tryz.prog [] 97 sd := by
 intro xs ps r h hp
 unfold sd at h
 split at h
 ·skip
  rename_i a b
  cases h
  obtain ⟨q0, q1, -⟩ := Zo hp
  exact weaken (ys := [.str a, .str b]) ⟨zV _, zV _, trivial⟩ (Kl a b q0 q1)
 ·cases h
def tp : List AV → Option (List zN × AV)
 | [.str a, .str b, .v (.int .i64 m)] => some ([.p (ZY a = true), .p (ZY b = true), .p (m = 18)], .tup 3 (zw [.i (bif leB a.length 18 && leB b.length 18 then zY a else 0), .i (bif leB a.length 18 && leB b.length 18 then zY b else 0), .b (leB a.length 18 && leB b.length 18)]))
 | _ => none
theorem Ol (a : List UInt8) (b : List UInt8) (m : Int) (ha : ZY a = true) (hb' : ZY b = true) (hm : m = 18) :
 Zy [AV.str a, AV.str b, aI m] → bF (!zr false (zG m (lZ a)) || zr false (zG m (lZ a))) (bF (!zr false (zG m (lZ a)) || zr false (zG m (lZ a))) (bF (!zr false (zG m (lZ a)) || zr false (zG m (lZ a))) (bF (!!zG m (lZ a) || zr false (zG m (lZ a))) (zZ (bif zG m (lZ a) then true else zG m (lZ b)) (3 = lN [AV.junk, AV.junk, AV.junk] ∧ ((True ∧
 kI ∧ iZ = bif leB (lZ a) (18 : Int) && leB (lZ b) (18 : Int) then zY a else iZ) ∧ kI ∧ iZ = bif leB (lZ a) (18 : Int) && leB (lZ b) (18 : Int) then zY b else iZ) ∧ false = (leB (lZ a) (18 : Int) && leB (lZ b) (18 : Int))) (bF (ZY a) (lN a ≤ 18 ∧ bF (ZY b) (lN b ≤ 18 ∧ 3 = lN [AV.junk, AV.junk, AV.junk] ∧ ((True ∧ kI ∧ zY a = bif leB (lZ a) (18 : Int)
 && leB (lZ b) (18 : Int) then zY a else iZ) ∧ kI ∧ zY b = bif leB (lZ a) (18 : Int) && leB (lZ b) (18 : Int) then zY b else iZ) ∧ (bif true then true else false) = (leB (lZ a) (18 : Int) && leB (lZ b) (18 : Int))))))))) := by
 delta bF kI lZ lN iZ aI
 intro hb
 simp only [sS, dS]
 subst hm
 have e : (zG 18 (a.length : Int) || zG 18 (b.length : Int)) = !(leB (a.length : Int) 18 && leB (b.length : Int) 18) := by
  rw [Bool.eq_iff_iff, Bool.or_eq_true, zp, zp, Bool.not_eq_true', Bool.and_eq_false_iff, Bool.eq_false_iff, Bool.eq_false_iff, Ne, Ne, Zx, Zx]
  omega
 rw [e]
 refine zX.2 ⟨fun c => ?_, fun c => ?_⟩
 ·rw [Bool.not_eq_true'] at c
  rw [c]
  exact ⟨rfl, ⟨rfl, rfl⟩, rfl⟩
 ·rw [Bool.not_eq_false'] at c
  have c' := c
  rw [Bool.and_eq_true, Zx, Zx] at c'
  rw [c, ha, hb', XB, XB]
  exact ⟨by omega, by omega, rfl, ⟨rfl, rfl⟩, rfl⟩
theorem nV (a : List UInt8) (b : List UInt8) (m : Int) (ha : ZY a = true) (hb' : ZY b = true) (hm : m = 18) : zu Tryz.prog [] 98 [.str a, .str b, .i m] (.tup 3 (zw [.i (bif leB a.length 18 && leB b.length 18 then zY a else 0), .i (bif leB a.length 18 && leB b.length 18 then zY b else 0), .b (leB a.length 18 && leB b.length 18)])) :=
 zv (T := T0.plus 145 Vk) (an := .auto) mixed (zz.plus zq So) (Eq.mp (by kernel_rfl) (Ol a b m ha hb' hm))
theorem NH : zP Tryz.prog [] 98 tp := by
 intro xs ps r h hp
 unfold tp at h
 split at h
 ·skip
  rename_i a b m
  cases h
  obtain ⟨q0, q1, q2, -⟩ := Zo hp
  exact weaken (ys := [.str a, .str b, .i m]) ⟨zV _, zV _, zV _, trivial⟩ (nV a b m q0 q1 q2)
 ·cases h
end Go.Te

namespace Go.Te
open Go Go.Sx Go.Proofs Go.Ar
set_option maxRecDepth 100000
set_option maxHeartbeats 4000000
theorem OG {a : zj} (h : ZY a = true) : (zY a).natAbs < 10 ^ a.length := by
 by_cases hm : a.getD 0 0 = 45
 ·have h0 : 0 < a.length := by
   match a, h with
   | [], h => cases h
   | c :: r, _ => simp
  obtain ⟨_, hm1, _, hm4⟩ := TI h0 hm
  rw [hm4]
  rw [h] at hm1
  have hd : Z8 (a.drop 1) = true := by
   cases hx : Z8 (a.drop 1) with
   | true => rfl
   | false => rw [hx] at hm1; cases hm1
  have := We (l := a.drop 1) (List.all_eq_true.2 (ZS.1 hd).2.1)
  have h3 : 10 ^ (a.drop 1).length ≤ 10 ^ a.length := Nat.pow_le_pow_right (by omega) (by simp)
  omega
 ·obtain ⟨hp1, _, hp3⟩ := Wn (a := a) fun e => hm e.2
  rw [hp3]
  have := We (l := a) (List.all_eq_true.2 (ZS.1 (hp1.symm.trans h)).2.1)
  omega
theorem pY (x : Int) : (if -x > x then -x else x) = (x.natAbs : Int) := by split <;> omega
def yN (a b : zj) : Nat := Nat.gcd (zY a).natAbs (zY b).natAbs
structure WA where
 x : Int
 y : Int
def tP : List AV → Option (List zN × AV)
 | [.v (.int .i64 x), .v (.int .i64 y)] => some ([], .i (xM x y))
 | _ => none
theorem kf (x : Int) (y : Int) :
 let q1 := (kI ∧ iZ = xM x y); let q2 := (kI ∧ (-1 : Int) = xM x y); let q3 := (kI ∧ iO = xM x y); Zy [aI x, aI y] → zZ (x != x) (zZ (y != y) q1 q2) (zZ (y != y) q3 (zZ (zG x y) q2 (zZ (zG y x) q3 q1))) := by
 delta kI iZ iO aI
 dsimp only
 intro hb
 simp only [sS, dS]
 unfold xM
 refine ⟨fun h => absurd rfl h, fun _ => ⟨fun h => absurd rfl h, fun _ => ⟨fun h => ?_, fun h => ⟨fun h2 => ?_, fun h2 => ?_⟩⟩⟩⟩
 ·rw [(zp _ _).2 h]; rfl
 ·rw [show zG x y = false from Bool.eq_false_iff.2 fun e => by have := (zp _ _).1 e; omega, beq_eq_false_iff_ne.2 (by omega)]; rfl
 ·rw [show x = y by omega, show zG y y = false from Bool.eq_false_iff.2 fun e => by have := (zp _ _).1 e; omega, beq_self_eq_true]; rfl
theorem IM (x : Int) (y : Int) : zu Tryz.prog [] 56 [.i x, .i y] (.i (xM x y)) :=
 zv (T := T0.body Tryz.prog [(93, .auto)]) (an := .auto) mixed (zz.body mixed zq _) (Eq.mp (by kernel_rfl) (kf x y))
theorem Q5 : zP Tryz.prog [] 56 tP := by
 intro xs ps r h hp
 unfold tP at h
 split at h
 ·skip
  rename_i x y
  cases h
  exact weaken (ys := [.i x, .i y]) ⟨zV _, zV _, trivial⟩ (IM x y)
 ·cases h
theorem SL {a b q r : Int} (h : r + b * q = a) (hr : (0 < b ∧ 0 ≤ r ∧ r < b) ∨ (b < 0 ∧ b < r ∧ r ≤ 0)) : Int.fdiv a b = q ∧ Int.fmod a b = r := by
 rcases hr with ⟨h0, h1, h2⟩ | ⟨h0, h1, h2⟩
 ·rw [Int.fdiv_eq_ediv_of_nonneg _ (by omega), Int.fmod_eq_emod_of_nonneg _ (by omega)]
  exact (Int.ediv_emod_unique h0).2 ⟨h, h1, h2⟩
 ·have h3 : (-a) / (-b) = q ∧ (-a) % (-b) = -r := (Int.ediv_emod_unique (by omega)).2 ⟨by rw [Int.neg_mul]; omega, by omega, by omega⟩
  rw [← Int.neg_fdiv_neg, Int.fdiv_eq_ediv_of_nonneg _ (by omega)]
  refine ⟨h3.1, ?_⟩
  have h4 := Int.neg_fmod_neg a b
  rw [Int.fmod_eq_emod_of_nonneg _ (by omega), h3.2] at h4
  omega
theorem mY {a b : Int} (hb : b ≠ 0) :
  ((a.tmod b != 0 && !(zG (a.tmod b) 0 == zG b 0)) = true → Int.fdiv a b = a.tdiv b - 1 ∧ Int.fmod a b = a.tmod b + b) ∧
  ((a.tmod b != 0 && !(zG (a.tmod b) 0 == zG b 0)) = false → Int.fdiv a b = a.tdiv b ∧ Int.fmod a b = a.tmod b) ∧ (a.tmod b).natAbs < b.natAbs ∧ (a.tdiv b).natAbs ≤ a.natAbs := by
 have e := Int.mul_tdiv_add_tmod a b
 have m : (a.tmod b).natAbs < b.natAbs := by rw [Int.natAbs_tmod]; exact Nat.mod_lt _ (by omega)
 refine ⟨fun c => SL ?_ ?_, fun c => SL (by omega) ?_, m, Int.natAbs_tdiv_le_natAbs a b⟩
 ·rw [Int.mul_sub, Int.mul_one]; omega
 all_goals
  generalize a.tmod b = r at *
  rcases Int.lt_or_le b 0 with h1 | h1 <;> rcases Int.lt_or_le r 0 with h2 | h2
  ·rw [(zp _ _).2 h1, (zp _ _).2 h2] at c
   simp at c <;> omega
  ·rw [(zp _ _).2 h1, show zG r 0 = false from Bool.eq_false_iff.2 fun e => by have := (zp _ _).1 e; omega] at c
   simp at c <;> omega
  ·rw [(zp _ _).2 h2, show zG b 0 = false from Bool.eq_false_iff.2 fun e => by have := (zp _ _).1 e; omega] at c
   simp at c <;> omega
  ·rw [show zG b 0 = false from Bool.eq_false_iff.2 fun e => by have := (zp _ _).1 e; omega, show zG r 0 = false from Bool.eq_false_iff.2 fun e => by have := (zp _ _).1 e; omega] at c
   simp at c <;> omega
end Go.Te

namespace Go.Te
open Go Go.Sx Go.Proofs Go.Ar
set_option maxRecDepth 100000
set_option maxHeartbeats 4000000
def wJ (s : zj) : zj := s.takeWhile Zc
def Z9 (s : zj) : Bool := Z8 (wJ s) && leB ((wJ s).length : Int) 8
def ZV (s : zj) : Int := bif Z9 s then (zD (wJ s) : Int) else 0
def zA (s : zj) : zj := bif Z9 s then s.drop (wJ s).length else []
theorem ry {a b : zj} (h : ∀ c ∈ a, Zc c = true) : wJ (a ++ b) = a ++ wJ b := by
 unfold wJ
 exact List.takeWhile_append_of_pos h
theorem uK {s : zj} {z : Nat} (h1 : z ≤ s.length) (h2 : ∀ i, i < z → Zc (s.getD i 0) = true) : ∀ c ∈ s.take z, Zc c = true := fun c hc => by
 obtain ⟨i, hi, e⟩ := tH hc
 rw [List.length_take] at hi
 rw [← e, getD_takeS (by omega)]
 exact h2 i (by omega)
theorem Pf {s : zj} {z : Nat} (h1 : z ≤ s.length) (h2 : ∀ i, i < z → Zc (s.getD i 0) = true) (h3 : z = s.length ∨ Zc (s.getD z 0) = false) : wJ s = s.take z := by
 conv => lhs; rw [← List.take_append_drop z s]
 rw [ry (uK h1 h2)]
 have : wJ (s.drop z) = [] := by
  by_cases hz : z = s.length
  ·rw [List.drop_of_length_le (by omega)]; rfl
  ·rw [U7 (by omega)]
   unfold wJ
   rw [List.takeWhile_cons, h3.resolve_left hz]
   rfl
 rw [this, List.append_nil]
theorem HX {s : zj} {z : Nat} (h1 : z ≤ s.length) (h2 : ∀ i, i < z → Zc (s.getD i 0) = true) : z ≤ (wJ s).length := by
 have : wJ s = s.take z ++ wJ (s.drop z) := by
  conv => lhs; rw [← List.take_append_drop z s]
  exact ry (uK h1 h2)
 rw [this, List.length_append, List.length_take]
 omega
theorem mJ {s : zj} {z : Nat} (h1 : z ≤ s.length) (h2 : ∀ i, i < z → Zc (s.getD i 0) = true) (h3 : z = s.length ∨ 8 < z ∨ Zc (s.getD z 0) = false) :
  Z9 s = !((z : Int) == 0 || zG 8 (z : Int) || zG 1 (z : Int) && ((s.getD 0 0).toNat : Int) == 48) ∧ (Z9 s = true → wJ s = s.take z) := by
 by_cases h8 : 8 < z
 ·have hg := HX h1 h2
  have e : Z9 s = false := by
   unfold Z9
   rw [show leB ((wJ s).length : Int) 8 = false from Bool.eq_false_iff.2 fun e => by have := (Zx _ _).1 e; omega, Bool.and_false]
  rw [e, (zp _ _).2 (show (8 : Int) < (z : Int) by omega)]
  exact ⟨by simp, fun h => by cases h⟩
 ·have ht := Pf h1 h2 (h3.imp id fun h => h.resolve_left h8)
  refine ⟨?_, fun _ => ht⟩
  have e48 : (((s.getD 0 0).toNat : Int) == 48) = (s.getD 0 0 == 48) := vO (s.getD 0 0) 48 (by decide)
  unfold Z9
  have hl : (s.take z).length = z := by rw [List.length_take]; omega
  rw [ht, hl, e48, (Zx _ _).2 (show (z : Int) ≤ 8 by omega), Bool.and_true, show zG 8 (z : Int) = false from Bool.eq_false_iff.2 fun e => by have := (zp _ _).1 e; omega]
  unfold Z8
  rw [hl, List.all_eq_true.2 (uK h1 h2), show zG 1 (z : Int) = Nat.blt 1 z from by rw [Bool.eq_iff_iff, zp, ZX]; omega]
  by_cases h0 : z = 0
  ·subst h0; rfl
  ·rw [(ZX _ _).2 (show 0 < z by omega), beq_eq_false_iff_ne.2 (show (z : Int) ≠ 0 by omega), getD_takeS (show 0 < z by omega)]
   cases Nat.blt 1 z <;> cases s.getD 0 0 == 48 <;> rfl
def na (s : zj) : yQ :=
 .two .auto (.two .auto (.two (.one (.loop Nat (fun σ z => [(0, σ.tm 0), (5, .i (zD (s.take z) : Int)), (6, .i (z : Int))]) (fun σ z => []) 0 (fun σ z => z ≤ s.length ∧ z ≤ 9 ∧ ∀ i, i < z → Zc (s.getD i 0) = true) (fun σ z => s.length - z) .auto)) .auto))
def SS : List AV → Option (List zN × AV)
 | [.str s] => some ([.p (s.length ≤ 9223372036854775807)], .tup 3 (zw [.i (ZV s), .str (zA s), .b (Z9 s)]))
 | _ => none
theorem MU (s : List UInt8) (hl : s.length ≤ 9223372036854775807) :
 Zy [AV.str s] → (∃ (z : Nat), ((z ≤ lN s ∧ z ≤ 9 ∧ ∀ (i : Nat), i < z → Zc (gD s i (0 : UInt8)) = true) ∧ s = s ∧ (kI ∧ iZ = (cI (zD (List.take z s)))) ∧ kI ∧ iZ = (cI z)) ∧ True) ∧ ∀ (z : Nat), let q1 := (zG (cI z) (lZ s)); let q3 := (bif zG (cI z) (lZ s) then leB (cI z) (8 : Int) else false); let q2 := (!zr true q3 || zr true q3); let q4 := (iZ ≤ (cI z) ∧ (cI z) < (lZ s)); let q7 := (cI (UInt8.toNat (gD s (Int.toNat (↑z : Int))
 (0 : UInt8)))); let q6 := (bif bif zG (cI z) (lZ s) then leB (cI z) (8 : Int) else false then leB (48 : Int) q7 else false); let q5 := (!zr true q6 || zr true q6); let q8 := (q7 - (48 : Int)); let q10 := (bif (cI z) == iZ then true else zG (8 : Int) (cI z)); let q9 := (!zr false q10 || zr false q10); let q12 := (zr false q10 && zr true (zG iO (cI z))); let q11 := (!q12 || zr false q10 && zr true (zG iO (cI z))); (z ≤ lN s ∧ z ≤ 9 ∧ ∀ (i : Nat), i < z → Zc (gD s i (0 : UInt8)) = true) →
 bF (!zr true q1 || zr true q1) (bF (!zG (cI z) (lZ s) || zr true q1) (bF q2 (bF q2 (bF (!zr true q3 || DB.db q4) (bF q2 (bF ((!bif zG (cI z) (lZ s) then leB (cI z) (8 : Int) else false) || zr true q3) (bF q5 (bF q5 (bF (!zr true q6 || DB.db q4) (bF q5 (bF ((!bif bif zG (cI z) (lZ s) then leB (cI z) (8 : Int) else false then leB (48 : Int) q7 else false) || zr true q6) (zZ (bif bif bif zG (cI z) (lZ s) then leB (cI z) (8 : Int)
 else false then leB (48 : Int) q7 else false then leB q7 (57 : Int) else false) (bF (dK ((10 : Int) * (cI (zD (List.take z s))))) (bF (DB.db q4) (bF (DB.db (yD IntKind.u8 q8)) (bF (dK q8) (bF (dK ((10 : Int) * (cI (zD (List.take z s))) + q8)) (bF (dK ((cI z) + iO)) (∃ (z' : Nat), (((z' ≤ lN s ∧ z' ≤ 9 ∧ ∀ (i : Nat), i < z' → Zc (gD s i (0 : UInt8)) = true) ∧ lN s - z' < lN s - z) ∧ s = s ∧ (kI ∧ (10 : Int) * (cI (zD (List.take z s))) +
 q8 = (cI (zD (List.take z' s)))) ∧ kI ∧ (cI z) + iO = (cI z')) ∧ True))))))) (bF (!zr false ((cI z) == iZ) || zr false ((cI z) == iZ)) (bF (!!(cI z) == iZ || zr false ((cI z) == iZ)) (bF q9 (bF q9 (bF q11 (bF (!q12 || DB.db (iZ ≤ iZ ∧ iZ < (lZ s))) (bF q11 (bF q9 (bF (!zr false q10 || (!zG iO (cI z) || zr false q10 && zr true (zG iO (cI z)))) (bF ((!!bif (cI z)
 == iZ then true else zG (8 : Int) (cI z)) || zr false q10) (zZ (bif bif (cI z) == iZ then true else zG (8 : Int) (cI z) then true else bif zG iO (cI z) then (cI (UInt8.toNat (gD s 0 (0 : UInt8)))) == (48 : Int) else false) (3 = lN [AV.junk, AV.junk, AV.junk] ∧ ((True ∧ kI ∧ iZ = ZV s) ∧ bA #[] = zA s) ∧ false = Z9 s) (bF (DB.db (iZ ≤ (cI z) ∧ (cI z) ≤ (lZ s))) (3 = lN [AV.junk, AV.junk, AV.junk] ∧ ((True ∧
 kI ∧ (cI (zD (List.take z s))) = ZV s) ∧ List.drop (Int.toNat (cI z)) s = zA s) ∧ true = Z9 s))))))))))))))))))))))))) := by
 delta bF dK bA cI kI lZ lN gD iZ iO
 dsimp only
 intro hb
 simp only [sS, dS, xt, G0]
 have dg2 : ∀ c : UInt8, (leB 48 (c.toNat : Int) && leB (c.toNat : Int) 57) = Zc c := fun c => by rw [Bool.eq_iff_iff, Bool.and_eq_true, Zx, Zx, y8]; omega
 simp only [Bool.and_assoc, dg2]
 refine ⟨⟨0, ⟨Nat.zero_le _, Nat.zero_le _, fun i hi => absurd hi (Nat.not_lt_zero _)⟩, rfl, rfl⟩, fun z ⟨z1, z2, z3⟩ => ⟨fun h => ?_, fun h => ?_, zX.2 ⟨fun c => ?_, fun c => ⟨fun h => ?_, ?_⟩⟩⟩⟩
 ·rw [Bool.and_eq_true] at h; have := (zp _ _).1 h.1; omega
 ·rw [Bool.and_eq_true] at h; have := (zp _ _).1 h.1; omega
 ·rw [Bool.and_eq_true, Bool.and_eq_true] at c
  obtain ⟨c1, c2, c3⟩ := c
  have c1 : z < s.length := by have := (zp _ _).1 c1; omega
  have c2 : z ≤ 8 := by have := (Zx _ _).1 c2; omega
  have hd := y8.1 c3
  have hst : (zD (s.take (z + 1)) : Int) = 10 * (zD (s.take z) : Int) + (((s.getD z 0).toNat : Int) - 48) := by
   rw [Qc (by omega), VT]
   unfold vE
   omega
  have b1 : zD (s.take z) < 10 ^ 9 := by
   have h1 := We (l := s.take z) (List.all_eq_true.2 (uK z1 z3))
   exact Nat.lt_of_lt_of_le h1 (Nat.pow_le_pow_right (by omega) (by rw [List.length_take]; omega))
  rw [show 10 ^ 9 = 1000000000 from by decide] at b1
  refine ⟨⟨by omega, by omega⟩, ⟨by omega, by omega⟩, ⟨by omega, by omega⟩, ⟨by omega, by omega⟩, ⟨by omega, by omega⟩, ⟨by omega, by omega⟩, z + 1, ⟨⟨by omega, by omega, fun i hi => ?_⟩, by omega⟩, hst.symm, by omega⟩
  by_cases e : i = z
  ·rw [e]; exact c3
  ·exact z3 i (by omega)
 ·rw [Bool.and_eq_true, zp] at h; exact ⟨by omega, by omega⟩
 ·have h3 : z = s.length ∨ 8 < z ∨ Zc (s.getD z 0) = false := by
   by_cases q1 : z = s.length
   ·exact .inl q1
   by_cases q2 : 8 < z
   ·exact .inr (.inl q2)
   refine .inr (.inr ?_)
   have q3 : zG (z : Int) (s.length : Int) = true := (zp _ _).2 (by omega)
   have q4 : leB (z : Int) 8 = true := (Zx _ _).2 (by omega)
   rw [q3, q4] at c
   simpa using c
  obtain ⟨k1, k2⟩ := mJ z1 z3 h3
  refine te (by cases ((z : Int) == 0 || zG 8 (z : Int)) <;> cases zG 1 (z : Int) <;> rfl) ?_
  unfold ZV zA
  refine zX.2 ⟨fun c2 => ?_, fun c2 => ?_⟩
  ·rw [c2] at k1
   rw [k1]
   exact ⟨rfl, ⟨rfl, rfl⟩, rfl⟩
  ·rw [c2] at k1
   have ht := k2 k1
   rw [k1, ht, List.length_take, show min z s.length = z by omega]
   exact ⟨⟨by omega, by omega⟩, rfl, ⟨rfl, rfl⟩, rfl⟩
theorem K9 (s : List UInt8) (hl : s.length ≤ 9223372036854775807) : zu Tryz.prog [] 91 [.str s] (.tup 3 (zw [.i (ZV s), .str (zA s), .b (Z9 s)])) :=
 zv (T := T0) (an := na s) mixed zq (Eq.mp (by kernel_rfl) (MU s hl))
theorem jz : zP Tryz.prog [] 91 SS := by
 intro xs ps r h hp
 unfold SS at h
 split at h
 ·skip
  rename_i s
  cases h
  obtain ⟨q0, -⟩ := Zo hp
  exact weaken (ys := [.str s]) ⟨zV _, trivial⟩ (K9 s q0)
 ·cases h
def wc (x y : Int) : Int := bif leB 0 x && leB 0 y then (Nat.gcd x.toNat y.toNat : Int) else 0
def Kf (x y : Int) : yQ :=
 .two .auto (.two (.one (.loop WA (fun σ z => [(0, .i z.x), (1, .i z.y)]) (fun σ z => []) 0 (fun σ z => 0 ≤ z.x ∧ 0 ≤ z.y ∧ z.x ≤ 9223372036854775807 ∧ z.y ≤ 9223372036854775807 ∧ Nat.gcd z.x.toNat z.y.toNat = Nat.gcd x.toNat y.toNat) (fun σ z => z.y.toNat) .auto)) .auto)
def rY : List AV → Option (List zN × AV)
 | [.v (.int .i64 x), .v (.int .i64 y)] => some ([.p (0 ≤ x ∧ x ≤ 9223372036854775807), .p (0 ≤ y ∧ y ≤ 9223372036854775807)], .i (wc x y))
 | _ => none
theorem Km (x : Int) (y : Int) (h1 : 0 ≤ x ∧ x ≤ 9223372036854775807) (h2 : 0 ≤ y ∧ y ≤ 9223372036854775807) :
 Zy [aI x, aI y] → (∃ (z : WA), ((iZ ≤ WA.x z ∧ iZ ≤ WA.y z ∧ WA.x z ≤ iX ∧ WA.y z ≤ iX ∧ Nat.gcd (Int.toNat (WA.x z)) (Int.toNat (WA.y z)) = Nat.gcd (Int.toNat x) (Int.toNat y)) ∧ (kI ∧ x = WA.x z) ∧ kI ∧ y = WA.y z) ∧ True) ∧ ∀ (z : WA), iZ ≤ WA.x z ∧ iZ ≤ WA.y z ∧ WA.x z ≤ iX ∧ WA.y z ≤ iX ∧ Nat.gcd (Int.toNat (WA.x z)) (Int.toNat (WA.y z)) = Nat.gcd (Int.toNat x) (Int.toNat y) →
 zZ (WA.y z != iZ) (bF (DB.db (WA.y z ≠ iZ)) (∃ (z' : WA), (((iZ ≤ WA.x z' ∧ iZ ≤ WA.y z' ∧ WA.x z' ≤ iX ∧ WA.y z' ≤ iX ∧ Nat.gcd (Int.toNat (WA.x z')) (Int.toNat (WA.y z')) = Nat.gcd (Int.toNat x) (Int.toNat y)) ∧ Int.toNat (WA.y z') < Int.toNat (WA.y z)) ∧ (kI ∧ WA.y z = WA.x z') ∧ kI ∧ Int.tmod (WA.x z) (WA.y z) = WA.y z') ∧ True)) (kI ∧ WA.x z = wc x y) := by
 delta bF kI iZ iX aI
 intro hb
 simp only [sS, dS]
 have hO : wc x y = (Nat.gcd x.toNat y.toNat : Int) := by unfold wc; rw [(Zx _ _).2 h1.1, (Zx _ _).2 h2.1]; rfl
 rw [hO]
 refine ⟨⟨⟨x, y⟩, ⟨h1.1, h2.1, h1.2, h2.2, rfl⟩, rfl, rfl⟩, fun z ⟨z1, z2, z3, z4, z5⟩ => ⟨fun hy => ?_, fun hy => ?_⟩⟩
 ·generalize z.x = zx at *
  generalize z.y = zy at *
  obtain ⟨X, rfl⟩ : ∃ X : Nat, zx = X := ⟨zx.toNat, by omega⟩
  obtain ⟨Y, rfl⟩ : ∃ Y : Nat, zy = Y := ⟨zy.toNat, by omega⟩
  have tm : (X : Int).tmod (Y : Int) = ((X % Y : Nat) : Int) := by rw [Int.tmod_eq_emod_of_nonneg (by omega)]; omega
  have hm : X % Y < Y := Nat.mod_lt _ (by omega)
  refine ⟨hy, ⟨Y, ((X % Y : Nat) : Int)⟩, ⟨⟨by simp only; omega, by simp only; omega, by simp only; omega, by simp only; omega, ?_⟩, by simp only; omega⟩, rfl, tm⟩
  simp only [Int.toNat_natCast] at z5 ⊢
  rw [← UF (by omega)]; exact z5
 ·rw [hy] at z5
  simp only [Int.toNat_zero, Nat.gcd_zero_right] at z5
  omega
theorem ic (x : Int) (y : Int) (h1 : 0 ≤ x ∧ x ≤ 9223372036854775807) (h2 : 0 ≤ y ∧ y ≤ 9223372036854775807) : zu Tryz.prog [] 92 [.i x, .i y] (.i (wc x y)) :=
 zv (T := T0) (an := Kf x y) mixed zq (Eq.mp (by kernel_rfl) (Km x y h1 h2))
theorem MJ : zP Tryz.prog [] 92 rY := by
 intro xs ps r h hp
 unfold rY at h
 split at h
 ·skip
  rename_i x y
  cases h
  obtain ⟨q0, q1, -⟩ := Zo hp
  exact weaken (ys := [.i x, .i y]) ⟨zV _, zV _, trivial⟩ (ic x y q0 q1)
 ·cases h
end Go.Te
