/- Contracts of small functions of the package span and its reference. -/
import Derived.Test.YtdkpceodckdcfaaGreatDoorArA
import Derived.Test.YtdkpceodckdcfaaGreatDoorProg
set_option linter.unusedSimpArgs false
set_option linter.unusedVariables false
namespace Go.Te
open Go Go.Sx Go.Proofs Go.Ar
set_option maxRecDepth 100000
set_option maxHeartbeats 4000000
theorem mixed : Tryz.prog.follows .mixedOrders = true := by kernel_rfl
abbrev T0 : Tb := wn []
def wP : List AV → Option (List zN × AV)
 | [.v (.int .i64 n), .v (.int .i64 a), .v (.int .i64 b)] => some ([], .b (zK n a b))
 | _ => none
theorem O2 (n : Int) (a : Int) (b : Int) :
 zB [aI n, aI a, aI b] → bF (!zU true (leB a n) || zU true (leB a n)) (bF (!zU true (leB a n) || zU true (leB a n)) (bF (!leB a n || zU true (leB a n)) ((bif leB a n then leB n b else false) = zK n a b))) := by
 delta bF aI
 intro _
 unfold zK
 simp only [TH, Mw, ge_iff_le, rh, NW]; grind
theorem mm (n : Int) (a : Int) (b : Int) : zS Tryz.prog [] 75 [.i n, .i a, .i b] (.b (zK n a b)) :=
 zV (T := T0) (an := .auto) mixed zr (Eq.mp (by kernel_rfl) (O2 n a b))
theorem VT : zQ Tryz.prog [] 75 wP := by
 intro xs ps r h hp
 unfold wP at h
 split at h
 ·skip
  rename_i n a b
  cases h
  exact weaken (ys := [.i n, .i a, .i b]) ⟨zX _, zX _, zX _, trivial⟩ (mm n a b)
 ·cases h
def Gu : Tb := T0.plus 75 wP
theorem s9 : zY Tryz.prog Gu := zY.plus zr VT
def Sy : List AV → Option (List zN × AV)
 | [.v (.int .i64 s), .v (.int .i64 q)] => some ([], .b (Vt s q))
 | _ => none
theorem lH (s : Int) (q : Int) :
 zB [aI s, aI q] → bF (!zU true (zK s iO (65536 : Int)) || zU true (zK s iO (65536 : Int))) (bF (!zK s iO (65536 : Int) || zU true (zK s iO (65536 : Int))) ((bif zK s iO (65536 : Int) then zK q iZ (1048576 : Int) else false) = Vt s q)) := by
 delta bF iZ iO aI
 intro _
 unfold Vt
 simp only [sS, ZN, Zr, ZS, ZY]
theorem kQ (s : Int) (q : Int) : zS Tryz.prog [] 122 [.i s, .i q] (.b (Vt s q)) :=
 zV (T := Gu) (an := .auto) mixed s9 (Eq.mp (by kernel_rfl) (lH s q))
theorem KE : zQ Tryz.prog [] 122 Sy := by
 intro xs ps r h hp
 unfold Sy at h
 split at h
 ·skip
  rename_i s q
  cases h
  exact weaken (ys := [.i s, .i q]) ⟨zX _, zX _, trivial⟩ (kQ s q)
 ·cases h
def Ga : Tb := Gu.plus 122 Sy
theorem nC : zY Tryz.prog Ga := zY.plus s9 KE
def VM : List AV → Option (List zN × AV)
 | [.v (.int .i64 w), .v (.int .i64 d), .v (.int .i64 s), .v (.int .i64 q)] => some ([], .b (yc w d s q))
 | _ => none
theorem oq (w : Int) (d : Int) (s : Int) (q : Int) :
 let q2 := (bif zK w iO (1000 : Int) then zK d iO (1000 : Int) else false); let q1 := (!zU true q2 || zU true q2); zB [aI w, aI d, aI s, aI q] → bF (!zU true (zK w iO (1000 : Int)) || zU true (zK w iO (1000 : Int))) (bF (!zK w iO (1000 : Int) || zU true (zK w iO (1000 : Int))) (bF q1 (bF q1 (bF ((!bif zK w iO (1000 : Int) then zK d iO (1000 : Int) else false) || zU true q2) ((bif bif zK w
 iO (1000 : Int) then zK d iO (1000 : Int) else false then Vt s q else false) = yc w d s q))))) := by
 delta bF iO aI
 dsimp only
 intro _
 unfold yc
 simp only [sS, ZN, Zr, ZS, ZY]
theorem N6 (w : Int) (d : Int) (s : Int) (q : Int) : zS Tryz.prog [] 74 [.i w, .i d, .i s, .i q] (.b (yc w d s q)) :=
 zV (T := Ga) (an := .auto) mixed nC (Eq.mp (by kernel_rfl) (oq w d s q))
theorem qM : zQ Tryz.prog [] 74 VM := by
 intro xs ps r h hp
 unfold VM at h
 split at h
 ·skip
  rename_i w d s q
  cases h
  exact weaken (ys := [.i w, .i d, .i s, .i q]) ⟨zX _, zX _, zX _, zX _, trivial⟩ (N6 w d s q)
 ·cases h
def wO : List AV → Option (List zN × AV)
 | [.v (.int .i64 n), .v (.int .i64 a), .v (.int .i64 b)] => some ([], .b (!zK n a b))
 | _ => none
theorem Qn (n : Int) (a : Int) (b : Int) :
 zB [aI n, aI a, aI b] → bF (!zU false (zn n a) || zU false (zn n a)) (bF (!zU false (zn n a) || zU false (zn n a)) (bF (!!zn n a || zU false (zn n a)) ((bif zn n a then true else zn b n) = !zK n a b))) := by
 delta bF aI
 intro _
 unfold zK
 simp only [tH, NW, PY, rh]; grind
theorem OO (n : Int) (a : Int) (b : Int) : zS Tryz.prog [] 63 [.i n, .i a, .i b] (.b (!zK n a b)) :=
 zV (T := T0) (an := .auto) mixed zr (Eq.mp (by kernel_rfl) (Qn n a b))
theorem uv : zQ Tryz.prog [] 63 wO := by
 intro xs ps r h hp
 unfold wO at h
 split at h
 ·skip
  rename_i n a b
  cases h
  exact weaken (ys := [.i n, .i a, .i b]) ⟨zX _, zX _, zX _, trivial⟩ (OO n a b)
 ·cases h
def G9 : Tb := T0.plus 63 wO
theorem nK : zY Tryz.prog G9 := zY.plus zr uv
def v6 : List AV → Option (List zN × AV)
 | [.v (.int .i64 w), .v (.int .i64 d), .v (.int .i64 s), .v (.int .i64 q)] => some ([], .i (bif yc w d s q then 0 else 2))
 | _ => none
theorem od (w : Int) (d : Int) (s : Int) (q : Int) :
 let q1 := (bif !zK w iO (1000 : Int) then true else !zK d iO (1000 : Int)); let q2 := (bif bif !zK w iO (1000 : Int) then true else !zK d iO (1000 : Int) then true else !zK s iO (65536 : Int)); zB [aI w, aI d, aI s, aI q] → bF (!zU false !zK w iO (1000 : Int) || zU false !zK w iO (1000 : Int)) (bF (!!!zK w iO (1000 : Int) || zU false !zK w iO (1000 : Int)) (zZ (!zU false q1 || zU false q1)
 (bF ((!!bif !zK w iO (1000 : Int) then true else !zK d iO (1000 : Int)) || zU false q1) (bF (!zU false q2 || zU false q2) (bF ((!!bif bif !zK w iO (1000 : Int) then true else !zK d iO (1000 : Int) then true else !zK s iO (65536 : Int)) || zU false q2) (zZ (bif bif bif !zK w iO (1000 : Int) then true else !zK d iO (1000 : Int) then true else !zK s iO (65536 : Int) then true else !zK q iZ (1048576 : Int)) (kI ∧ (2 : Int) = bif yc w d s q then (0 :
 Int) else (2 : Int)) (kI ∧ iZ = bif yc w d s q then iZ else (2 : Int)))))) False)) := by
 delta bF kI iZ iO aI
 dsimp only
 intro _
 unfold yc Vt
 simp only [sS, ZN, Zr, ZS, ZY]
 cases zK w 1 1000 <;> cases zK d 1 1000 <;> cases zK s 1 65536 <;> cases zK q 0 1048576 <;> trivial
theorem lU (w : Int) (d : Int) (s : Int) (q : Int) : zS Tryz.prog [] 62 [.i w, .i d, .i s, .i q] (.i (bif yc w d s q then 0 else 2)) :=
 zV (T := G9) (an := .auto) mixed nK (Eq.mp (by kernel_rfl) (od w d s q))
theorem RG : zQ Tryz.prog [] 62 v6 := by
 intro xs ps r h hp
 unfold v6 at h
 split at h
 ·skip
  rename_i w d s q
  cases h
  exact weaken (ys := [.i w, .i d, .i s, .i q]) ⟨zX _, zX _, zX _, zX _, trivial⟩ (lU w d s q)
 ·cases h
def NJ (g : Nat → Int) : Nat → Nat → Int
 | 0, _ => 0
 | n + 1, i => bif g i == 0 then NJ g n (i + 1) else g i
theorem Ri {g : Nat → Int} : ∀ {k n : Nat}, k ≤ n → (∀ i, i < k → g i = 0) → NJ g n 0 = NJ g (n - k) k
 | 0, n, _, _ => by simp
 | k + 1, n, hk, h => by
  rw [Ri (k := k) (by omega) fun i hi => h i (by omega)]
  obtain ⟨m, hm⟩ : ∃ m, n - k = m + 1 := ⟨n - k - 1, by omega⟩
  rw [hm, NJ, h k (by omega)]
  grind
def gU (len : Nat) (g : Nat → Int) : yW :=
 .two .auto (.two .auto (.two (.two .auto (.one (.loop Nat (fun σ z => [(0, σ.tm 0), (3, .i 0), (6, σ.tm 0), (7, .i len), (8, .i z)]) (fun _ _ => []) 0 (fun _ z => z ≤ len ∧ ∀ i, i < z → g i = 0) (fun _ z => len - z) .auto))) .auto))
def HG (len : Nat) (els : Nat → Nat → AV) : Bool := uc (fun i => yz (els i 0)) len
theorem NK {f : Bool} {len : Nat} {els : Nat → Nat → AV} (h : HG len els = true) : zc (.xl f 1 len els) (.xl f 1 len fun i _ => .i (AV.int (els i 0))) := by
 refine ⟨fun h => h, rfl, rfl, fun i j hi hj => ?_⟩
 obtain rfl : j = 0 := by omega
 exact zf (Za (XW h i hi))
theorem gn (f : Bool) (len : Nat) (g : Nat → Int) :
 let q1 := (AV.xl f 1 len fun (i x : Nat) => aI (g i)); let q2 := (kI ∧ iZ = iZ); let q3 := (kI ∧ (cI len) = (cI len)); zB [AV.xl f 1 len fun (i x : Nat) => aI (g i)] → (∃ (z : Nat), ((z ≤ len ∧ ∀ (i : Nat), i < z → g i = iZ) ∧ zc q1 q1 ∧ q2 ∧ zc q1 q1 ∧ q3 ∧ kI ∧ iZ = (cI z)) ∧ True) ∧ ∀ (z : Nat), (z ≤ len ∧ ∀ (i : Nat), i < z → g i = iZ) → zZ (zn (cI z) (cI len)) (bF (DB.db (iZ ≤ (cI z) ∧ (cI z) < (cI len))) (zZ (g
 (Int.toNat (cI z)) != iZ) (kI ∧ g (Int.toNat (cI z)) = NJ g len 0) (bF (dK ((cI z) + iO)) (∃ (z' : Nat), (((z' ≤ len ∧ ∀ (i : Nat), i < z' → g i = iZ) ∧ len - z' < len - z) ∧ zc q1 q1 ∧ q2 ∧ zc q1 q1 ∧ q3 ∧ kI ∧ (cI z) + iO = (cI z')) ∧ True)))) (kI ∧ iZ = NJ g len 0) := by
 delta bF dK cI kI iZ iO aI
 dsimp only
 intro hb
 replace hb := hb.1
 refine ⟨⟨0, ⟨⟨by omega, fun i hi => by omega⟩, zX _, ⟨rfl, rfl⟩, zX _, ⟨rfl, rfl⟩, rfl, rfl⟩, trivial⟩, ?_⟩
 rintro z ⟨h1, h2⟩
 simp only [ZK, j6, jC]
 simp only [YZ, Int.toNat_natCast]
 have hs := Ri h1 h2
 refine ⟨fun hlt => ⟨⟨by omega, by omega⟩, fun hz => ⟨trivial, ?_⟩, fun hz => ⟨by omega, z + 1, ⟨⟨⟨by omega, fun i hi => ?_⟩, by omega⟩, zX _, ⟨trivial, trivial⟩, zX _, ⟨trivial, trivial⟩, trivial, by omega⟩, trivial⟩⟩, fun hge => ⟨trivial, ?_⟩⟩
 ·obtain ⟨m, hm⟩ : ∃ m, len - z = m + 1 := ⟨len - z - 1, by omega⟩
  rw [hs, hm, NJ, show (g z == 0) = false from beq_eq_false_iff_ne.2 hz]
  rfl
 ·grind
 ·rw [hs, show len - z = 0 by omega]
  rfl
def II : List AV → Option (List zN × AV)
 | [.xl _ 1 len els] => some ([.b (HG len els)], .i (NJ (fun i => AV.int (els i 0)) len 0))
 | _ => none
theorem Gw : zQ Tryz.prog [] 114 II := by
 intro xs ps r h hp
 unfold II at h
 split at h
 ·rename_i f len els
  cases h
  refine weaken (ys := [_]) ⟨NK (hp _ List.mem_cons_self), trivial⟩ ?_
  exact zV mixed zr (Eq.mp (by kernel_rfl) (gn f len fun i => AV.int (els i 0)) : SK Tryz.prog T0 114 (gU len fun i => AV.int (els i 0)) [.xl f 1 len fun i _ => .i (AV.int (els i 0))] (.i (NJ (fun i => AV.int (els i 0)) len 0)))
 ·cases h
def I4 (n : Int) : Bool := zK n (-1073741824) 1073741824
def NZ (a : Row) : Bool := I4 a.w && I4 a.d && I4 a.s && I4 a.q
theorem Po {a : Row} (h : NZ a = true) : (-1073741824 ≤ a.w ∧ a.w ≤ 1073741824) ∧ (-1073741824 ≤ a.d ∧ a.d ≤ 1073741824) ∧ (-1073741824 ≤ a.s ∧ a.s ≤ 1073741824) ∧ (-1073741824 ≤ a.q ∧ a.q ≤ 1073741824) := by
 unfold NZ I4 at h
 simp only [Bool.and_eq_true, Z2] at h
 omega
theorem P7 {a : Row} (h : yc a.w a.d a.s a.q = true) : NZ a = true := by
 unfold yc Vt at h
 simp only [Bool.and_eq_true, Z2] at h
 unfold NZ I4
 simp only [Bool.and_eq_true, Z2]
 omega
def Gj : Tb := T0.plus 114 II
theorem TJ : zY Tryz.prog Gj := zY.plus zr Gw
def rJ : List AV → Option (List zN × AV)
 | [x_a, x_b] => some ([.b (ZH Row x_a), .b (ZH Row x_b), .p (NZ (ZR (α := Row) x_a) = true), .p (NZ (ZR (α := Row) x_b) = true)], .i (Sc (ZR (α := Row) x_a) (ZR (α := Row) x_b)))
 | _ => none
theorem ma (a : Row) (b : Row) (h1 : NZ a = true) (h2 : NZ b = true) :
 zB [AV.agg 5 (zp.enc a), AV.agg 5 (zp.enc b)] → bF (dK (Row.w a - Row.w b)) (bF (dK (Row.d a - Row.d b)) (bF (dK (Row.s a - Row.s b)) (bF (dK (Row.q a - Row.q b)) (kI ∧ NJ (fun (i : Nat) => AV.int (Sx.rowAt [fun (x : Nat) => aI (Row.w a - Row.w b), fun (x : Nat) => aI (Row.d a - Row.d b), fun (x : Nat) => aI (Row.s a - Row.s b), fun (x : Nat) => aI (Row.q a - Row.q b)] i 0)) 4 0 = Sc a b)))) := by
 delta bF dK kI aI
 intro _
 have g1 := Po h1
 have g2 := Po h2
 simp only [sS, ZN, Zr, ZS, ZY, YJ, yn, W9, Yd, vN, YA, vk, Yb, YC, yM]
 refine ⟨⟨by omega, by omega⟩, ⟨by omega, by omega⟩, ⟨by omega, by omega⟩, ⟨by omega, by omega⟩, ?_⟩
 show (bif a.w - b.w == 0 then (bif a.d - b.d == 0 then (bif a.s - b.s == 0 then (bif a.q - b.q == 0 then (0 : Int) else a.q - b.q) else a.s - b.s) else a.d - b.d) else a.w - b.w) = Sc a b
 unfold Sc
 grind
theorem L2 (a : Row) (b : Row) (h1 : NZ a = true) (h2 : NZ b = true) : zS Tryz.prog [] 76 [yx a, yx b] (.i (Sc a b)) :=
 zV (T := Gj) (an := .auto) mixed TJ (Eq.mp (by kernel_rfl) (ma a b h1 h2))
theorem kC : zQ Tryz.prog [] 76 rJ := by
 intro xs ps r h hp
 unfold rJ at h
 split at h
 ·skip
  rename_i x_a x_b
  cases h
  obtain ⟨q0, q1, q2, q3, -⟩ := Zx hp
  exact weaken (ys := [yx (ZR (α := Row) x_a), yx (ZR (α := Row) x_b)]) ⟨zH q0, zH q1, trivial⟩ (L2 (ZR (α := Row) x_a) (ZR (α := Row) x_b) q2 q3)
 ·cases h
def fX : Tb := ((T0.plus 75 wP).plus 74 VM).plus 76 rJ
theorem nR : zY Tryz.prog fX := zY.plus (zY.plus (zY.plus zr VT) qM) kC
def NU (l : List Row) : yW :=
 .two .auto (.two .auto (.two (.two .auto (.one (.loop Nat (fun σ z => [(0, σ.tm 0), (8, σ.tm 8), (9, σ.tm 9), (10, .i z)]) (fun σ z => []) 0 (fun σ z => z ≤ l.length ∧ ∀ i, i < z → xD l i = 0) (fun σ z => l.length - z) .auto))) .auto))
def rH : List AV → Option (List zN × AV)
 | [x_l] => some ([.b (za Row x_l)], .i (Y4 (rowsOf x_l)))
 | _ => none
theorem lY (l : List Row) :
 let q1 := (AV.xl false 5 (lN l) fun i j => zp.enc (gD l i zp.dflt) j); let q2 := (kI ∧ (lZ l) = (lZ l)); zB [AV.xl false 5 (lN l) fun i j => zp.enc (gD l i zp.dflt) j] → zZ (zn (4096 : Int) (lZ l)) (kI ∧ (4 : Int) = Y4 l) ((∃ (z : Nat), ((z ≤ lN l ∧ ∀ (i : Nat), i < z → xD l i = iZ) ∧ zc q1 q1 ∧ zc q1 q1 ∧ q2 ∧ kI ∧ iZ = (cI z)) ∧ True) ∧ ∀ (z : Nat), let q5 := (gD l (Int.toNat (cI z)) zp.dflt); let q4 :=
 (Row.w q5); let q6 := (Row.d q5); let q7 := (Row.s q5); let q8 := (Row.q q5); let q3 := (!zU false !yc q4 q6 q7 q8 || zU false !yc q4 q6 q7 q8); let q9 := (!zU true (zn iZ (cI z)) || zU true (zn iZ (cI z))); let q10 := (AV.agg 5 fun (i : Nat) => zp.enc (gD l (Int.toNat ((cI z) - iO)) zp.dflt) (0 + i)); let q11 := (AV.agg 5 fun (i : Nat) => if 0 ≤ 0 + i ∧ 0 + i < 5 then (fun i j => zp.enc (gD l i zp.dflt) j) (Int.toNat (cI z)) (0 + (0 + i - 0)) else Zf (Value.agg #[Value.int .i64 iZ, Value.int .i64 iZ,
 Value.int .i64 iZ, Value.int .i64 iZ, Value.int .i64 iZ]) (0 + i)); let q12 := (ZR q10); let q13 := (ZR q11); (z ≤ lN l ∧ ∀ (i : Nat), i < z → xD l i = iZ) → zZ (zn (cI z) (lZ l)) (bF (DB.db (iZ ≤ (cI z) ∧ (cI z) < (lZ l))) (bF q3 (bF q3 (bF q3 (bF (!!!yc q4 q6 q7 q8 || zU false !yc q4 q6 q7 q8) (zZ (bif !yc q4 q6 q7 q8 then true else !zK (Row.n q5) iO (65536 : Int)) (kI ∧ (2 : Int) = Y4 l) (bF q9 (bF (!zU true (zn (0 :
 Int) (cI z)) || dK ((cI z) - iO)) (bF q9 (bF q9 (bF (!zU true (zn iZ (cI z)) || DB.db (iZ ≤ (cI z) - iO ∧ (cI z) - iO < (lZ l))) (bF q9 (bF q9 (bF q9 (bF (!zU true (zn iZ (cI z)) || ZH Row q10) (bF (!zU true (zn iZ (cI z)) || ZH Row q11) ((zU true (zn iZ (cI z)) = true → NZ q12 = true) ∧ (zU true (zn iZ (cI z)) = true → NZ q13 = true) ∧ bF q9 (bF (!zn iZ (cI z) || zU true (zn iZ (↑z :
 Int))) (zZ (bif zn iZ (cI z) then leB iZ (Sc q12 q13) else false) (kI ∧ (10 : Int) = Y4 l) (bF (dK ((cI z) + iO)) (∃ (z' : Nat), (((z' ≤ lN l ∧ ∀ (i : Nat), i < z' → xD l i = iZ) ∧ lN l - z' < lN l - z) ∧ zc q1 q1 ∧ zc q1 q1 ∧ q2 ∧ kI ∧ (cI z) + iO = (cI z')) ∧ True))))))))))))))))))))) (kI ∧ iZ = Y4 l)) := by
 delta bF dK cI kI lZ lN gD iZ iO
 dsimp only
 intro hb
 have e2 : (zp.dflt : Row) = r0 := rfl
 simp only [sS, ZN, Zr, ZS, ZY, YJ, yn, W9, Yd, vN, YA, vk, Yb, YC, yM, e2, Ze, wT]
 refine ⟨fun h => by unfold Y4; rw [(zC _ _).2 (by omega)]; rfl, fun h => ?_⟩
 have hT : Y4 l = Ya (xD l) l.length 0 := by
  unfold Y4
  rw [show Nat.blt 4096 l.length = false from Bool.eq_false_iff.2 fun e => by have := (zC _ _).1 e; omega]
  rfl
 have hat : ∀ z v, z < l.length → (∀ i, i < z → xD l i = 0) → xD l z = v → v ≠ 0 → v = Y4 l := fun z v hz z2 hv hv0 => by
  rw [hT, XX (k := z) hz z2 (by rw [hv]; exact hv0), hv]
 refine ⟨⟨0, ⟨by omega, fun i hi => by omega⟩, rfl⟩, fun z ⟨z1, z2⟩ => ⟨fun hz => ⟨⟨by omega, hz⟩, zu.2 ⟨fun c => ?_, fun c => ?_⟩⟩, fun hz => ?_⟩⟩
 ·exact hat z 2 (by omega) z2 (by unfold xD; rw [c]; rfl) (by decide)
 ·have c' := c
  rw [Bool.or_eq_false_iff, Bool.not_eq_false', Bool.not_eq_false'] at c
  refine ⟨fun hp => ⟨by omega, by omega⟩, fun hp => ?_, fun hp => ?_, fun _ => P7 c.1, zu.2 ⟨fun c2 => ?_, fun c2 => ⟨⟨by omega, by omega⟩, z + 1, ⟨⟨by omega, fun i hi => ?_⟩, by omega⟩, by omega⟩⟩⟩
  ·have := (zC _ _).1 hp; omega
  ·have := (zC _ _).1 hp
   exact P7 (rM (z2 (z - 1) (by omega))).1
  ·exact hat z 10 (by omega) z2 (by unfold xD; rw [c', c2]; rfl) (by decide)
  ·by_cases e : i = z
   ·rw [e]; unfold xD; rw [c', c2]; rfl
   grind
 ·rw [hT, xH fun i hi => z2 i (by omega)]
theorem KT (l : List Row) : zS Tryz.prog [] 24 [Zp l] (.i (Y4 l)) :=
 zV (T := fX) (an := NU l) mixed nR (Eq.mp (by kernel_rfl) (lY l))
theorem jy : zQ Tryz.prog [] 24 rH := by
 intro xs ps r h hp
 unfold rH at h
 split at h
 ·skip
  rename_i x_l
  cases h
  obtain ⟨q0, -⟩ := Zx hp
  exact weaken (ys := [Zp (rowsOf x_l)]) ⟨zi q0, trivial⟩ (KT (rowsOf x_l))
 ·cases h
def Tj (a b : Row) : Bool := bif a.w != b.w then zn a.w b.w else bif a.d != b.d then zn a.d b.d else bif a.s != b.s then zn a.s b.s else zn a.q b.q
theorem L0 (a b : Row) : Tj a b = !leB 0 (Sc a b) := by
 have key : ∀ x y : Int, zn x y = !leB 0 (x - y) := fun x y => by
  unfold leB
  rw [Bool.not_not, Bool.eq_iff_iff, zq, zq]; omega
 have ne : ∀ x y : Int, (x - y != 0) = (x != y) := fun x y => by
  grind
 unfold Tj Sc
 grind
def Uh : List AV → Option (List zN × AV)
 | [x_a, x_b] => some ([.b (ZH Row x_a), .b (ZH Row x_b)], .b (Tj (ZR (α := Row) x_a) (ZR (α := Row) x_b)))
 | _ => none
theorem nU (a : Row) (b : Row) :
 zB [AV.agg 5 (zp.enc a), AV.agg 5 (zp.enc b)] → zZ (Row.w a != Row.w b) (zn (Row.w a) (Row.w b) = Tj a b) (zZ (Row.d a != Row.d b) (zn (Row.d a) (Row.d b) = Tj a b) (zZ (Row.s a != Row.s b) (zn (Row.s a) (Row.s b) = Tj a b) (zn (Row.q a) (Row.q b) = Tj a b))) := by
 intro _
 unfold Tj
 simp only [sS, ZN, Zr, ZS, ZY, YJ, yn, W9, Yd, vN, YA, vk, Yb, YC, yM]
 grind
theorem lh (a : Row) (b : Row) : zS Tryz.prog [] 64 [yx a, yx b] (.b (Tj a b)) :=
 zV (T := T0) (an := .auto) mixed zr (Eq.mp (by kernel_rfl) (nU a b))
theorem mr : zQ Tryz.prog [] 64 Uh := by
 intro xs ps r h hp
 unfold Uh at h
 split at h
 ·skip
  rename_i x_a x_b
  cases h
  obtain ⟨q0, q1, -⟩ := Zx hp
  exact weaken (ys := [yx (ZR (α := Row) x_a), yx (ZR (α := Row) x_b)]) ⟨zH q0, zH q1, trivial⟩ (lh (ZR (α := Row) x_a) (ZR (α := Row) x_b))
 ·cases h
def fw : Tb := ((T0.plus 63 wO).plus 62 v6).plus 64 Uh
theorem nJ : zY Tryz.prog fw := zY.plus (zY.plus (zY.plus zr uv) RG) mr
def nW (l : List Row) : yW :=
 .two .auto (.two .auto (.two (.two .auto (.one (.loop Nat (fun σ z => [(0, σ.tm 0), (3, .i z)]) (fun σ z => []) 0 (fun σ z => z ≤ l.length ∧ ∀ i, i < z → xD l i = 0) (fun σ z => l.length - z) .auto))) .auto))
def tW : List AV → Option (List zN × AV)
 | [x_l] => some ([.b (za Row x_l)], .i (Y4 (rowsOf x_l)))
 | _ => none
theorem o9 (l : List Row) :
 let q1 := (AV.xl false 5 (lN l) fun i j => zp.enc (gD l i zp.dflt) j); zB [AV.xl false 5 (lN l) fun i j => zp.enc (gD l i zp.dflt) j] → zZ (zn (4096 : Int) (lZ l)) (kI ∧ (4 : Int) = Y4 l) ((∃ (z : Nat), ((z ≤ lN l ∧ ∀ (i : Nat), i < z → xD l i = iZ) ∧ zc q1 q1 ∧ kI ∧ iZ = (cI z)) ∧ True) ∧ ∀ (z : Nat), let q3 := (iZ ≤ (cI z) ∧ (cI z) < (lZ l)); let q2 := (DB.db q3); let q7 := (gD l (Int.toNat (cI z)) zp.dflt); let q6 := (bif
 yc (Row.w q7) (Row.d q7) (Row.s q7) (Row.q q7) then iZ else (2 : Int)); let q5 := (q6 != iZ); let q4 := (!zU false q5 || zU false q5); let q8 := (!zU true (zn iZ (cI z)) || zU true (zn iZ (cI z))); let q9 := (AV.agg 5 fun (i : Nat) => zp.enc (gD l (Int.toNat ((cI z) - iO)) zp.dflt) (0 + i)); let q10 := (AV.agg 5 fun (i : Nat) => zp.enc q7 (0 + i)); (z ≤ lN l ∧ ∀ (i : Nat), i < z → xD l i = iZ) → zZ (zn (cI z) (lZ l)) (bF q2 (bF q2 (bF q2 (bF q2 (bF q4 (zZ q4
 (bF (!zU false q5 || DB.db q3) (bF q4 (bF q4 (bF q4 (bF (!!q6 != iZ || zU false q5) (zZ (bif q6 != iZ then true else !zK (Row.n q7) iO (65536 : Int)) (kI ∧ (2 : Int) = Y4 l) (bF q8 (bF (!zU true (zn iZ (cI z)) || dK ((cI z) - iO)) (bF q8 (bF q8 (bF (!zU true (zn iZ (cI z)) || DB.db (iZ ≤ (cI z) - iO ∧ (cI z) - iO < (lZ l))) (bF q8 (bF q8 (bF q8 (bF (!zU true (zn iZ (cI z)) ||
 DB.db q3) (bF q8 (bF q8 (bF q8 (bF (!zU true (zn iZ (cI z)) || ZH Row q9) (bF (!zU true (zn iZ (cI z)) || ZH Row q10) (bF q8 (bF (!zn iZ (cI z) || zU true (zn iZ (cI z))) (zZ (bif zn iZ (cI z) then !Tj (ZR q9) (ZR q10) else false) (kI ∧ (10 : Int) = Y4 l) (bF (dK ((cI z) + iO)) (∃ (z' : Nat), (((z' ≤ lN l ∧ ∀ (i : Nat), i < z' → xD l i = iZ) ∧ lN l - z' < lN l - z) ∧ zc q1 q1 ∧ kI ∧ (↑z :
 Int) + iO = (cI z')) ∧ True))))))))))))))))))))))))) False)))))) (kI ∧ iZ = Y4 l)) := by
 delta bF dK cI kI lZ lN gD iZ iO
 dsimp only
 intro hb
 have e2 : (zp.dflt : Row) = r0 := rfl
 have e3 : ∀ t : Bool, ((bif t then (0 : Int) else 2) != 0) = !t := fun t => by cases t <;> rfl
 simp only [sS, ZN, Zr, ZS, ZY, YJ, yn, W9, Yd, vN, YA, vk, Yb, YC, yM, e2, Ze, wT, L0, e3, Bool.not_not]
 refine ⟨fun h => by unfold Y4; rw [(zC _ _).2 (by omega)]; rfl, fun h => ?_⟩
 have hT : Y4 l = Ya (xD l) l.length 0 := by
  unfold Y4
  rw [show Nat.blt 4096 l.length = false from Bool.eq_false_iff.2 fun e => by have := (zC _ _).1 e; omega]
  rfl
 have hat : ∀ z v, z < l.length → (∀ i, i < z → xD l i = 0) → xD l z = v → v ≠ 0 → v = Y4 l := fun z v hz z2 hv hv0 => by
  rw [hT, XX (k := z) hz z2 (by rw [hv]; exact hv0), hv]
 refine ⟨⟨0, ⟨by omega, fun i hi => by omega⟩, rfl⟩, fun z ⟨z1, z2⟩ => ⟨fun hz => ?_, fun hz => ?_⟩⟩
 ·have hin : (0 : Int) ≤ (z : Int) ∧ (z : Int) < (l.length : Int) := ⟨by omega, hz⟩
  refine ⟨hin, hin, hin, hin, fun _ => hin, zu.2 ⟨fun c => ?_, fun c => ?_⟩⟩
  ·exact hat z 2 (by omega) z2 (by unfold xD; rw [c]; rfl) (by decide)
  ·refine ⟨fun hp => ⟨by omega, by omega⟩, fun hp => ?_, fun _ => hin, zu.2 ⟨fun c2 => ?_, fun c2 => ⟨⟨by omega, by omega⟩, z + 1, ⟨⟨by omega, fun i hi => ?_⟩, by omega⟩, by omega⟩⟩⟩
   ·have := (zC _ _).1 hp; omega
   ·exact hat z 10 (by omega) z2 (by unfold xD; rw [c, c2]; rfl) (by decide)
   ·by_cases e : i = z
    ·rw [e]; unfold xD; rw [c, c2]; rfl
    grind
 ·rw [hT, xH fun i hi => z2 i (by omega)]
theorem mj (l : List Row) : zS Tryz.prog [] 20 [Zp l] (.i (Y4 l)) :=
 zV (T := fw) (an := nW l) mixed nJ (Eq.mp (by kernel_rfl) (o9 l))
theorem Mo : zQ Tryz.prog [] 20 tW := by
 intro xs ps r h hp
 unfold tW at h
 split at h
 ·skip
  rename_i x_l
  cases h
  obtain ⟨q0, -⟩ := Zx hp
  exact weaken (ys := [Zp (rowsOf x_l)]) ⟨zi q0, trivial⟩ (mj (rowsOf x_l))
 ·cases h
end Go.Te
