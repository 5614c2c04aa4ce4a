/- Contracts of small functions of the package span and its reference. -/
import Derived.Test.YtdkpceodckdcfaaGreatDoorArA
import Derived.Test.YtdkpceodckdcfaaGreatDoorProg
set_option linter.unusedSimpArgs false
set_option linter.unusedVariables false
namespace Go.Te
open Go Go.Sx Go.Proofs Go.Ar
set_option maxRecDepth 100000
set_option maxHeartbeats 4000000
theorem mixed : Tryz.prog.follows .mixedOrders = true := by kernel_rfl
abbrev T0 : Tb := SJ []
def XH : List AV → Option (List zS × AV)
 | [.v (.int .i64 n), .v (.int .i64 a), .v (.int .i64 b)] => some ([], .b (zu n a b))
 | _ => none
theorem SY (n : Int) (a : Int) (b : Int) :
 Zo [aI n, aI a, aI b] → zz (!zy true (leB a n) || zy true (leB a n)) (zz (!zy true (leB a n) || zy true (leB a n)) (zz (!leB a n || zy true (leB a n)) ((bif leB a n then leB n b else false) = zu n a b) False) False) False := by
 delta aI
 intro _
 unfold zu
 simp only [VM, Sb, ge_iff_le, VE, rK]; grind
theorem Sr (n : Int) (a : Int) (b : Int) : zW Tryz.prog [] 75 [.i n, .i a, .i b] (.b (zu n a b)) :=
 zt (T := T0) (an := .auto) mixed zR (Eq.mp (by kernel_rfl) (SY n a b))
theorem Uq : zn Tryz.prog [] 75 XH := by
 intro xs ps r h hp
 unfold XH at h
 split at h
 ·skip
  rename_i n a b
  cases h
  exact weaken (ys := [.i n, .i a, .i b]) ⟨zY _, zY _, zY _, trivial⟩ (Sr n a b)
 ·cases h
def Pg : Tb := T0.plus 75 XH
theorem Vr : zZ Tryz.prog Pg := zZ.plus zR Uq
def um : List AV → Option (List zS × AV)
 | [.v (.int .i64 s), .v (.int .i64 q)] => some ([], .b (X1 s q))
 | _ => none
theorem Sl (s : Int) (q : Int) :
 Zo [aI s, aI q] → zz (!zy true (zu s iO (65536 : Int)) || zy true (zu s iO (65536 : Int))) (zz (!zu s iO (65536 : Int) || zy true (zu s iO (65536 : Int))) ((bif zu s iO (65536 : Int) then zu q iZ (1048576 : Int) else false) = X1 s q) False) False := by
 delta iZ iO aI
 intro _
 unfold X1
 simp only [sS, zJ, zm, zM, zQ]
theorem RJ (s : Int) (q : Int) : zW Tryz.prog [] 122 [.i s, .i q] (.b (X1 s q)) :=
 zt (T := Pg) (an := .auto) mixed Vr (Eq.mp (by kernel_rfl) (Sl s q))
theorem qw : zn Tryz.prog [] 122 um := by
 intro xs ps r h hp
 unfold um at h
 split at h
 ·skip
  rename_i s q
  cases h
  exact weaken (ys := [.i s, .i q]) ⟨zY _, zY _, trivial⟩ (RJ s q)
 ·cases h
def P5 : Tb := Pg.plus 122 um
theorem sK : zZ Tryz.prog P5 := zZ.plus Vr qw
def X2 : List AV → Option (List zS × AV)
 | [.v (.int .i64 w), .v (.int .i64 d), .v (.int .i64 s), .v (.int .i64 q)] => some ([], .b (Zf w d s q))
 | _ => none
theorem sW (w : Int) (d : Int) (s : Int) (q : Int) :
 let q2 := (bif zu w iO (1000 : Int) then zu d iO (1000 : Int) else false); let q1 := (!zy true q2 || zy true q2); Zo [aI w, aI d, aI s, aI q] → zz (!zy true (zu w iO (1000 : Int)) || zy true (zu w iO (1000 : Int))) (zz (!zu w iO (1000 : Int) || zy true (zu w iO (1000 : Int))) (zz q1 (zz q1 (zz ((!bif zu w iO (1000 : Int) then zu d iO (1000 : Int) else false) || zy true q2) ((bif bif zu w
 iO (1000 : Int) then zu d iO (1000 : Int) else false then X1 s q else false) = Zf w d s q) False) False) False) False) False := by
 delta iO aI
 dsimp only
 intro _
 unfold Zf
 simp only [sS, zJ, zm, zM, zQ]
theorem Rz (w : Int) (d : Int) (s : Int) (q : Int) : zW Tryz.prog [] 74 [.i w, .i d, .i s, .i q] (.b (Zf w d s q)) :=
 zt (T := P5) (an := .auto) mixed sK (Eq.mp (by kernel_rfl) (sW w d s q))
theorem UH : zn Tryz.prog [] 74 X2 := by
 intro xs ps r h hp
 unfold X2 at h
 split at h
 ·skip
  rename_i w d s q
  cases h
  exact weaken (ys := [.i w, .i d, .i s, .i q]) ⟨zY _, zY _, zY _, zY _, trivial⟩ (Rz w d s q)
 ·cases h
def xb : List AV → Option (List zS × AV)
 | [.v (.int .i64 n), .v (.int .i64 a), .v (.int .i64 b)] => some ([], .b (!zu n a b))
 | _ => none
theorem UB (n : Int) (a : Int) (b : Int) :
 Zo [aI n, aI a, aI b] → zz (!zy false (zl n a) || zy false (zl n a)) (zz (!zy false (zl n a) || zy false (zl n a)) (zz (!!zl n a || zy false (zl n a)) ((bif zl n a then true else zl b n) = !zu n a b) False) False) False := by
 delta aI
 intro _
 unfold zu
 simp only [WS, rK, TX, VE]; grind
theorem Tc (n : Int) (a : Int) (b : Int) : zW Tryz.prog [] 63 [.i n, .i a, .i b] (.b (!zu n a b)) :=
 zt (T := T0) (an := .auto) mixed zR (Eq.mp (by kernel_rfl) (UB n a b))
theorem Vo : zn Tryz.prog [] 63 xb := by
 intro xs ps r h hp
 unfold xb at h
 split at h
 ·skip
  rename_i n a b
  cases h
  exact weaken (ys := [.i n, .i a, .i b]) ⟨zY _, zY _, zY _, trivial⟩ (Tc n a b)
 ·cases h
def PF : Tb := T0.plus 63 xb
theorem T4 : zZ Tryz.prog PF := zZ.plus zR Vo
def vq : List AV → Option (List zS × AV)
 | [.v (.int .i64 w), .v (.int .i64 d), .v (.int .i64 s), .v (.int .i64 q)] => some ([], .i (bif Zf w d s q then 0 else 2))
 | _ => none
theorem sx (w : Int) (d : Int) (s : Int) (q : Int) :
 let q1 := (bif !zu w iO (1000 : Int) then true else !zu d iO (1000 : Int)); let q2 := (bif bif !zu w iO (1000 : Int) then true else !zu d iO (1000 : Int) then true else !zu s iO (65536 : Int)); Zo [aI w, aI d, aI s, aI q] → zz (!zy false !zu w iO (1000 : Int) || zy false !zu w iO (1000 : Int)) (zz (!!!zu w iO (1000 : Int) || zy false !zu w iO (1000 : Int)) (zz (!zy false q1 || zy false q1)
 (zz ((!!bif !zu w iO (1000 : Int) then true else !zu d iO (1000 : Int)) || zy false q1) (zz (!zy false q2 || zy false q2) (zz ((!!bif bif !zu w iO (1000 : Int) then true else !zu d iO (1000 : Int) then true else !zu s iO (65536 : Int)) || zy false q2) (zz (bif bif bif !zu w iO (1000 : Int) then true else !zu d iO (1000 : Int) then true else !zu s iO (65536 : Int) then true else !zu q iZ (1048576 : Int)) (kI ∧ (2 : Int) = bif Zf w d s q then (0 :
 Int) else (2 : Int)) (kI ∧ iZ = bif Zf w d s q then iZ else (2 : Int))) False) False) False) False) False) False := by
 delta kI iZ iO aI
 dsimp only
 intro _
 unfold Zf X1
 simp only [sS, zJ, zm, zM, zQ]
 cases zu w 1 1000 <;> cases zu d 1 1000 <;> cases zu s 1 65536 <;> cases zu q 0 1048576 <;> trivial
theorem Rt (w : Int) (d : Int) (s : Int) (q : Int) : zW Tryz.prog [] 62 [.i w, .i d, .i s, .i q] (.i (bif Zf w d s q then 0 else 2)) :=
 zt (T := PF) (an := .auto) mixed T4 (Eq.mp (by kernel_rfl) (sx w d s q))
theorem Sk : zn Tryz.prog [] 62 vq := by
 intro xs ps r h hp
 unfold vq at h
 split at h
 ·skip
  rename_i w d s q
  cases h
  exact weaken (ys := [.i w, .i d, .i s, .i q]) ⟨zY _, zY _, zY _, zY _, trivial⟩ (Rt w d s q)
 ·cases h
def rn (g : Nat → Int) : Nat → Nat → Int
 | 0, _ => 0
 | n + 1, i => bif g i == 0 then rn g n (i + 1) else g i
theorem u7 {g : Nat → Int} : ∀ {k n : Nat}, k ≤ n → (∀ i, i < k → g i = 0) → rn g n 0 = rn g (n - k) k
 | 0, n, _, _ => by simp
 | k + 1, n, hk, h => by
  rw [u7 (k := k) (by omega) fun i hi => h i (by omega)]
  obtain ⟨m, hm⟩ : ∃ m, n - k = m + 1 := ⟨n - k - 1, by omega⟩
  rw [hm, rn, h k (by omega)]
  simp only [beq_self_eq_true, cond_true]
  congr 1
  omega
def PX (len : Nat) (g : Nat → Int) : Z8 :=
 .two .auto (.two .auto (.two (.two .auto (.one (.loop Nat (fun σ z => [(0, σ.tm 0), (3, .i 0), (6, σ.tm 0), (7, .i len), (8, .i z)]) (fun _ _ => []) 0 (fun _ z => z ≤ len ∧ ∀ i, i < z → g i = 0) (fun _ z => len - z) .auto))) .auto))
def Pv (len : Nat) (els : Nat → Nat → AV) : Bool := wc (fun i => ye (els i 0)) len
theorem Se {f : Bool} {len : Nat} {els : Nat → Nat → AV} (h : Pv len els = true) : zc (.xl f 1 len els) (.xl f 1 len fun i _ => .i (AV.int (els i 0))) := by
 refine ⟨fun h => h, rfl, rfl, fun i j hi hj => ?_⟩
 obtain rfl : j = 0 := by omega
 exact zF (Zs (Yz h i hi))
theorem pI (f : Bool) (len : Nat) (g : Nat → Int) :
 let q1 := (AV.xl f 1 len fun (i x : Nat) => aI (g i)); let q2 := (kI ∧ iZ = iZ); let q3 := (kI ∧ (↑len : Int) = (↑len : Int)); Zo [AV.xl f 1 len fun (i x : Nat) => aI (g i)] → (∃ (z : Nat), ((z ≤ len ∧ ∀ (i : Nat), i < z → g i = iZ) ∧ zc q1 q1 ∧ q2 ∧ zc q1 q1 ∧ q3 ∧ kI ∧ iZ = (↑z : Int)) ∧ True) ∧ ∀ (z : Nat), (z ≤ len ∧ ∀ (i : Nat), i < z → g i = iZ) → zz (zl (↑z : Int) (↑len : Int)) (zz (DB.db (iZ ≤ (↑z : Int) ∧ (↑z : Int) < (↑len : Int))) (zz (g
 (Int.toNat (↑z : Int)) != iZ) (kI ∧ g (Int.toNat (↑z : Int)) = rn g len 0) (zz (DB.db (ZG .i64 ((↑z : Int) + iO))) (∃ (z' : Nat), (((z' ≤ len ∧ ∀ (i : Nat), i < z' → g i = iZ) ∧ len - z' < len - z) ∧ zc q1 q1 ∧ q2 ∧ zc q1 q1 ∧ q3 ∧ kI ∧ (↑z : Int) + iO = (↑z' : Int)) ∧ True) False)) False) (kI ∧ iZ = rn g len 0) := by
 delta kI iZ iO aI
 dsimp only
 intro hb
 replace hb := hb.1
 refine ⟨⟨0, ⟨⟨by omega, fun i hi => by omega⟩, zY _, ⟨rfl, rfl⟩, zY _, ⟨rfl, rfl⟩, rfl, rfl⟩, trivial⟩, ?_⟩
 rintro z ⟨h1, h2⟩
 simp only [XG, qa, qA]
 simp only [ZG, Int.toNat_natCast]
 have hs := u7 h1 h2
 refine ⟨fun hlt => ⟨⟨by omega, by omega⟩, fun hz => ⟨trivial, ?_⟩, fun hz => ⟨by omega, z + 1, ⟨⟨⟨by omega, fun i hi => ?_⟩, by omega⟩, zY _, ⟨trivial, trivial⟩, zY _, ⟨trivial, trivial⟩, trivial, by omega⟩, trivial⟩⟩, fun hge => ⟨trivial, ?_⟩⟩
 ·obtain ⟨m, hm⟩ : ∃ m, len - z = m + 1 := ⟨len - z - 1, by omega⟩
  rw [hs, hm, rn, show (g z == 0) = false from beq_eq_false_iff_ne.2 hz]
  rfl
 ·by_cases e : i = z
  ·rw [e]; exact hz
  ·exact h2 i (by omega)
 ·rw [hs, show len - z = 0 by omega]
  rfl
def Qp : List AV → Option (List zS × AV)
 | [.xl _ 1 len els] => some ([.b (Pv len els)], .i (rn (fun i => AV.int (els i 0)) len 0))
 | _ => none
theorem PN : zn Tryz.prog [] 114 Qp := by
 intro xs ps r h hp
 unfold Qp at h
 split at h
 ·rename_i f len els
  cases h
  refine weaken (ys := [_]) ⟨Se (hp _ List.mem_cons_self), trivial⟩ ?_
  exact zt mixed zR (Eq.mp (by kernel_rfl) (pI f len fun i => AV.int (els i 0)) : uj Tryz.prog T0 114 (PX len fun i => AV.int (els i 0)) [.xl f 1 len fun i _ => .i (AV.int (els i 0))] (.i (rn (fun i => AV.int (els i 0)) len 0)))
 ·cases h
def pp (n : Int) : Bool := zu n (-1073741824) 1073741824
def SV (a : Row) : Bool := pp a.w && pp a.d && pp a.s && pp a.q
theorem Tp {a : Row} (h : SV a = true) : (-1073741824 ≤ a.w ∧ a.w ≤ 1073741824) ∧ (-1073741824 ≤ a.d ∧ a.d ≤ 1073741824) ∧ (-1073741824 ≤ a.s ∧ a.s ≤ 1073741824) ∧ (-1073741824 ≤ a.q ∧ a.q ≤ 1073741824) := by
 unfold SV pp at h
 simp only [Bool.and_eq_true, yW] at h
 exact ⟨h.1.1.1, h.1.1.2, h.1.2, h.2⟩
theorem TN {a : Row} (h : Zf a.w a.d a.s a.q = true) : SV a = true := by
 unfold Zf X1 at h
 simp only [Bool.and_eq_true, yW] at h
 unfold SV pp
 simp only [Bool.and_eq_true, yW]
 omega
def PL : Tb := T0.plus 114 Qp
theorem VV : zZ Tryz.prog PL := zZ.plus zR PN
def uR : List AV → Option (List zS × AV)
 | [x_a, x_b] => some ([.b (Y2 Row x_a), .b (Y2 Row x_b), .p (SV (Yo (α := Row) x_a) = true), .p (SV (Yo (α := Row) x_b) = true)], .i (VG (Yo (α := Row) x_a) (Yo (α := Row) x_b)))
 | _ => none
theorem rp (a : Row) (b : Row) (h1 : SV a = true) (h2 : SV b = true) :
 Zo [AV.agg 5 (zv.enc a), AV.agg 5 (zv.enc b)] → zz (DB.db (ZG .i64 (Row.w a - Row.w b))) (zz (DB.db (ZG .i64 (Row.d a - Row.d b))) (zz (DB.db (ZG .i64 (Row.s a - Row.s b))) (zz (DB.db (ZG .i64 (Row.q a - Row.q b))) (kI ∧ rn (fun (i : Nat) => AV.int (Sx.rowAt [fun (x : Nat) => aI (Row.w a - Row.w b), fun (x : Nat) => aI (Row.d a - Row.d b), fun (x : Nat) => aI (Row.s a - Row.s b), fun (x : Nat) => aI (Row.q a - Row.q b)] i 0)) 4 0 = VG a b) False) False) False) False := by
 delta kI aI
 intro _
 have g1 := Tp h1
 have g2 := Tp h2
 simp only [sS, zJ, zm, zM, zQ, yn, ZQ, X4, yO, w8, yA, wC, yb, yB, Zj]
 refine ⟨⟨by omega, by omega⟩, ⟨by omega, by omega⟩, ⟨by omega, by omega⟩, ⟨by omega, by omega⟩, ?_⟩
 show (bif a.w - b.w == 0 then (bif a.d - b.d == 0 then (bif a.s - b.s == 0 then (bif a.q - b.q == 0 then (0 : Int) else a.q - b.q) else a.s - b.s) else a.d - b.d) else a.w - b.w) = VG a b
 unfold VG
 generalize a.w - b.w = x1
 generalize a.d - b.d = x2
 generalize a.s - b.s = x3
 generalize a.q - b.q = x4
 have e : ∀ (x A B : Int), (bif x == 0 then A else B) = bif x != 0 then B else A := fun x A B => by
  show _ = bif !(x == 0) then B else A
  cases x == 0 <;> rfl
 have e4 : (bif x4 == 0 then (0 : Int) else x4) = x4 := by
  cases h : x4 == 0 with
  | true => exact (eq_of_beq h).symm
  | false => rfl
 rw [e4, e, e, e]
theorem qo (a : Row) (b : Row) (h1 : SV a = true) (h2 : SV b = true) : zW Tryz.prog [] 76 [wV a, wV b] (.i (VG a b)) :=
 zt (T := PL) (an := .auto) mixed VV (Eq.mp (by kernel_rfl) (rp a b h1 h2))
theorem qR : zn Tryz.prog [] 76 uR := by
 intro xs ps r h hp
 unfold uR at h
 split at h
 ·skip
  rename_i x_a x_b
  cases h
  obtain ⟨q0, q1, q2, q3, -⟩ := Yc hp
  exact weaken (ys := [wV (Yo (α := Row) x_a), wV (Yo (α := Row) x_b)]) ⟨ZI q0, ZI q1, trivial⟩ (qo (Yo (α := Row) x_a) (Yo (α := Row) x_b) q2 q3)
 ·cases h
def P6 : Tb := ((T0.plus 75 XH).plus 74 X2).plus 76 uR
theorem ss : zZ Tryz.prog P6 := zZ.plus (zZ.plus (zZ.plus zR Uq) UH) qR
def Ss (l : List Row) : Z8 :=
 .two .auto (.two .auto (.two (.two .auto (.one (.loop Nat (fun σ z => [(0, σ.tm 0), (8, σ.tm 8), (9, σ.tm 9), (10, .i z)]) (fun σ z => []) 0 (fun σ z => z ≤ l.length ∧ ∀ i, i < z → yC l i = 0) (fun σ z => l.length - z) .auto))) .auto))
def YM : List AV → Option (List zS × AV)
 | [x_l] => some ([.b (ZV Row x_l)], .i (zj (rowsOf x_l)))
 | _ => none
theorem rF (l : List Row) :
 let q1 := (AV.xl false 5 (lN l) fun i j => zv.enc (gD l i zv.dflt) j); let q2 := (kI ∧ (lZ l) = (lZ l)); Zo [AV.xl false 5 (lN l) fun i j => zv.enc (gD l i zv.dflt) j] → zz (zl (4096 : Int) (lZ l)) (kI ∧ (4 : Int) = zj l) ((∃ (z : Nat), ((z ≤ lN l ∧ ∀ (i : Nat), i < z → yC l i = iZ) ∧ zc q1 q1 ∧ zc q1 q1 ∧ q2 ∧ kI ∧ iZ = (↑z : Int)) ∧ True) ∧ ∀ (z : Nat), let q5 := (gD l (Int.toNat (↑z : Int)) zv.dflt); let q4 :=
 (Row.w q5); let q6 := (Row.d q5); let q7 := (Row.s q5); let q8 := (Row.q q5); let q3 := (!zy false !Zf q4 q6 q7 q8 || zy false !Zf q4 q6 q7 q8); let q9 := (!zy true (zl iZ (↑z : Int)) || zy true (zl iZ (↑z : Int))); let q10 := (AV.agg 5 fun (i : Nat) => zv.enc (gD l (Int.toNat ((↑z : Int) - iO)) zv.dflt) (0 + i)); let q11 := (AV.agg 5 fun (i : Nat) => if 0 ≤ 0 + i ∧ 0 + i < 5 then (fun i j => zv.enc (gD l i zv.dflt) j) (Int.toNat (↑z : Int)) (0 + (0 + i - 0)) else Ym (Value.agg #[Value.int .i64 iZ, Value.int .i64 iZ,
 Value.int .i64 iZ, Value.int .i64 iZ, Value.int .i64 iZ]) (0 + i)); let q12 := (Yo q10); let q13 := (Yo q11); (z ≤ lN l ∧ ∀ (i : Nat), i < z → yC l i = iZ) → zz (zl (↑z : Int) (lZ l)) (zz (DB.db (iZ ≤ (↑z : Int) ∧ (↑z : Int) < (lZ l))) (zz q3 (zz q3 (zz q3 (zz (!!!Zf q4 q6 q7 q8 || zy false !Zf q4 q6 q7 q8) (zz (bif !Zf q4 q6 q7 q8 then true else !zu (Row.n q5) iO (65536 : Int)) (kI ∧ (2 : Int) = zj l) (zz q9 (zz (!zy true (zl (0 :
 Int) (↑z : Int)) || DB.db (ZG .i64 ((↑z : Int) - iO))) (zz q9 (zz q9 (zz (!zy true (zl iZ (↑z : Int)) || DB.db (iZ ≤ (↑z : Int) - iO ∧ (↑z : Int) - iO < (lZ l))) (zz q9 (zz q9 (zz q9 (zz (!zy true (zl iZ (↑z : Int)) || Y2 Row q10) (zz (!zy true (zl iZ (↑z : Int)) || Y2 Row q11) ((zy true (zl iZ (↑z : Int)) = true → SV q12 = true) ∧ (zy true (zl iZ (↑z : Int)) = true → SV q13 = true) ∧ zz q9 (zz (!zl iZ (↑z : Int) || zy true (zl iZ (↑z :
 Int))) (zz (bif zl iZ (↑z : Int) then leB iZ (VG q12 q13) else false) (kI ∧ (10 : Int) = zj l) (zz (DB.db (ZG .i64 ((↑z : Int) + iO))) (∃ (z' : Nat), (((z' ≤ lN l ∧ ∀ (i : Nat), i < z' → yC l i = iZ) ∧ lN l - z' < lN l - z) ∧ zc q1 q1 ∧ zc q1 q1 ∧ q2 ∧ kI ∧ (↑z : Int) + iO = (↑z' : Int)) ∧ True) False)) False) False) False) False) False) False) False) False) False) False) False) False)) False) False) False) False) False) (kI ∧ iZ = zj l)) := by
 delta kI lZ lN gD iZ iO
 dsimp only
 intro hb
 have e2 : (zv.dflt : Row) = r0 := rfl
 simp only [sS, zJ, zm, zM, zQ, yn, ZQ, X4, yO, w8, yA, wC, yb, yB, Zj, e2, x8, UM]
 refine ⟨fun h => by unfold zj; rw [(Zz _ _).2 (by omega)]; rfl, fun h => ?_⟩
 have hT : zj l = Yv (yC l) l.length 0 := by
  unfold zj
  rw [show Nat.blt 4096 l.length = false from Bool.eq_false_iff.2 fun e => by have := (Zz _ _).1 e; omega]
  rfl
 have hat : ∀ z v, z < l.length → (∀ i, i < z → yC l i = 0) → yC l z = v → v ≠ 0 → v = zj l := fun z v hz z2 hv hv0 => by
  rw [hT, wP (k := z) hz z2 (by rw [hv]; exact hv0), hv]
 refine ⟨⟨0, ⟨by omega, fun i hi => by omega⟩, rfl⟩, fun z ⟨z1, z2⟩ => ⟨fun hz => ⟨⟨by omega, hz⟩, zT.2 ⟨fun c => ?_, fun c => ?_⟩⟩, fun hz => ?_⟩⟩
 ·exact hat z 2 (by omega) z2 (by unfold yC; rw [c]; rfl) (by decide)
 ·have c' := c
  rw [Bool.or_eq_false_iff, Bool.not_eq_false', Bool.not_eq_false'] at c
  refine ⟨fun hp => ⟨by omega, by omega⟩, fun hp => ?_, fun hp => ?_, fun _ => TN c.1, zT.2 ⟨fun c2 => ?_, fun c2 => ⟨⟨by omega, by omega⟩, z + 1, ⟨⟨by omega, fun i hi => ?_⟩, by omega⟩, by omega⟩⟩⟩
  ·have := (Zz _ _).1 hp; omega
  ·have := (Zz _ _).1 hp
   exact TN (Tr (z2 (z - 1) (by omega))).1
  ·exact hat z 10 (by omega) z2 (by unfold yC; rw [c', c2]; rfl) (by decide)
  ·by_cases e : i = z
   ·rw [e]; unfold yC; rw [c', c2]; rfl
   ·exact z2 i (by omega)
 ·rw [hT, wI fun i hi => z2 i (by omega)]
theorem qh (l : List Row) : zW Tryz.prog [] 24 [yI l] (.i (zj l)) :=
 zt (T := P6) (an := Ss l) mixed ss (Eq.mp (by kernel_rfl) (rF l))
theorem xB : zn Tryz.prog [] 24 YM := by
 intro xs ps r h hp
 unfold YM at h
 split at h
 ·skip
  rename_i x_l
  cases h
  obtain ⟨q0, -⟩ := Yc hp
  exact weaken (ys := [yI (rowsOf x_l)]) ⟨zH q0, trivial⟩ (qh (rowsOf x_l))
 ·cases h
def vl (a b : Row) : Bool := bif a.w != b.w then zl a.w b.w else bif a.d != b.d then zl a.d b.d else bif a.s != b.s then zl a.s b.s else zl a.q b.q
theorem qW (a b : Row) : vl a b = !leB 0 (VG a b) := by
 have key : ∀ x y : Int, zl x y = !leB 0 (x - y) := fun x y => by
  unfold leB
  rw [Bool.not_not, Bool.eq_iff_iff, zK, zK]; omega
 have ne : ∀ x y : Int, (x - y != 0) = (x != y) := fun x y => by
  rw [Bool.eq_iff_iff, bne_iff_ne, bne_iff_ne]; omega
 unfold vl VG
 rw [ne, ne, ne]
 cases a.w != b.w with
 | true => exact key _ _
 | false =>
 cases a.d != b.d with
 | true => exact key _ _
 | false =>
 cases a.s != b.s with
 | true => exact key _ _
 | false => exact key _ _
def Wn : List AV → Option (List zS × AV)
 | [x_a, x_b] => some ([.b (Y2 Row x_a), .b (Y2 Row x_b)], .b (vl (Yo (α := Row) x_a) (Yo (α := Row) x_b)))
 | _ => none
theorem sX (a : Row) (b : Row) :
 Zo [AV.agg 5 (zv.enc a), AV.agg 5 (zv.enc b)] → zz (Row.w a != Row.w b) (zl (Row.w a) (Row.w b) = vl a b) (zz (Row.d a != Row.d b) (zl (Row.d a) (Row.d b) = vl a b) (zz (Row.s a != Row.s b) (zl (Row.s a) (Row.s b) = vl a b) (zl (Row.q a) (Row.q b) = vl a b))) := by
 intro _
 unfold vl
 simp only [sS, zJ, zm, zM, zQ, yn, ZQ, X4, yO, w8, yA, wC, yb, yB, Zj]
 refine ⟨fun h => by rw [bne_iff_ne.2 h]; rfl, fun h => ?_⟩
 rw [show (a.w != b.w) = false from bne_eq_false_iff_eq.2 h]
 refine ⟨fun h => by rw [bne_iff_ne.2 h]; rfl, fun h => ?_⟩
 rw [show (a.d != b.d) = false from bne_eq_false_iff_eq.2 h]
 refine ⟨fun h => by rw [bne_iff_ne.2 h]; rfl, fun h => ?_⟩
 rw [show (a.s != b.s) = false from bne_eq_false_iff_eq.2 h]
 rfl
theorem Rr (a : Row) (b : Row) : zW Tryz.prog [] 64 [wV a, wV b] (.b (vl a b)) :=
 zt (T := T0) (an := .auto) mixed zR (Eq.mp (by kernel_rfl) (sX a b))
theorem rI : zn Tryz.prog [] 64 Wn := by
 intro xs ps r h hp
 unfold Wn at h
 split at h
 ·skip
  rename_i x_a x_b
  cases h
  obtain ⟨q0, q1, -⟩ := Yc hp
  exact weaken (ys := [wV (Yo (α := Row) x_a), wV (Yo (α := Row) x_b)]) ⟨ZI q0, ZI q1, trivial⟩ (Rr (Yo (α := Row) x_a) (Yo (α := Row) x_b))
 ·cases h
def PE : Tb := ((T0.plus 63 xb).plus 62 vq).plus 64 Wn
theorem sq : zZ Tryz.prog PE := zZ.plus (zZ.plus (zZ.plus zR Vo) Sk) rI
def se (l : List Row) : Z8 :=
 .two .auto (.two .auto (.two (.two .auto (.one (.loop Nat (fun σ z => [(0, σ.tm 0), (3, .i z)]) (fun σ z => []) 0 (fun σ z => z ≤ l.length ∧ ∀ i, i < z → yC l i = 0) (fun σ z => l.length - z) .auto))) .auto))
def YT : List AV → Option (List zS × AV)
 | [x_l] => some ([.b (ZV Row x_l)], .i (zj (rowsOf x_l)))
 | _ => none
theorem sH (l : List Row) :
 let q1 := (AV.xl false 5 (lN l) fun i j => zv.enc (gD l i zv.dflt) j); Zo [AV.xl false 5 (lN l) fun i j => zv.enc (gD l i zv.dflt) j] → zz (zl (4096 : Int) (lZ l)) (kI ∧ (4 : Int) = zj l) ((∃ (z : Nat), ((z ≤ lN l ∧ ∀ (i : Nat), i < z → yC l i = iZ) ∧ zc q1 q1 ∧ kI ∧ iZ = (↑z : Int)) ∧ True) ∧ ∀ (z : Nat), let q3 := (iZ ≤ (↑z : Int) ∧ (↑z : Int) < (lZ l)); let q2 := (DB.db q3); let q7 := (gD l (Int.toNat (↑z : Int)) zv.dflt); let q6 := (bif
 Zf (Row.w q7) (Row.d q7) (Row.s q7) (Row.q q7) then iZ else (2 : Int)); let q5 := (q6 != iZ); let q4 := (!zy false q5 || zy false q5); let q8 := (!zy true (zl iZ (↑z : Int)) || zy true (zl iZ (↑z : Int))); let q9 := (AV.agg 5 fun (i : Nat) => zv.enc (gD l (Int.toNat ((↑z : Int) - iO)) zv.dflt) (0 + i)); let q10 := (AV.agg 5 fun (i : Nat) => zv.enc q7 (0 + i)); (z ≤ lN l ∧ ∀ (i : Nat), i < z → yC l i = iZ) → zz (zl (↑z : Int) (lZ l)) (zz q2 (zz q2 (zz q2 (zz q2 (zz q4 (zz q4
 (zz (!zy false q5 || DB.db q3) (zz q4 (zz q4 (zz q4 (zz (!!q6 != iZ || zy false q5) (zz (bif q6 != iZ then true else !zu (Row.n q7) iO (65536 : Int)) (kI ∧ (2 : Int) = zj l) (zz q8 (zz (!zy true (zl iZ (↑z : Int)) || DB.db (ZG .i64 ((↑z : Int) - iO))) (zz q8 (zz q8 (zz (!zy true (zl iZ (↑z : Int)) || DB.db (iZ ≤ (↑z : Int) - iO ∧ (↑z : Int) - iO < (lZ l))) (zz q8 (zz q8 (zz q8 (zz (!zy true (zl iZ (↑z : Int)) ||
 DB.db q3) (zz q8 (zz q8 (zz q8 (zz (!zy true (zl iZ (↑z : Int)) || Y2 Row q9) (zz (!zy true (zl iZ (↑z : Int)) || Y2 Row q10) (zz q8 (zz (!zl iZ (↑z : Int) || zy true (zl iZ (↑z : Int))) (zz (bif zl iZ (↑z : Int) then !vl (Yo q9) (Yo q10) else false) (kI ∧ (10 : Int) = zj l) (zz (DB.db (ZG .i64 ((↑z : Int) + iO))) (∃ (z' : Nat), (((z' ≤ lN l ∧ ∀ (i : Nat), i < z' → yC l i = iZ) ∧ lN l - z' < lN l - z) ∧ zc q1 q1 ∧ kI ∧ (↑z :
 Int) + iO = (↑z' : Int)) ∧ True) False)) False) False) False) False) False) False) False) False) False) False) False) False) False) False) False) False)) False) False) False) False) False) False) False) False) False) False) False) (kI ∧ iZ = zj l)) := by
 delta kI lZ lN gD iZ iO
 dsimp only
 intro hb
 have e2 : (zv.dflt : Row) = r0 := rfl
 have e3 : ∀ t : Bool, ((bif t then (0 : Int) else 2) != 0) = !t := fun t => by cases t <;> rfl
 simp only [sS, zJ, zm, zM, zQ, yn, ZQ, X4, yO, w8, yA, wC, yb, yB, Zj, e2, x8, UM, qW, e3, Bool.not_not]
 refine ⟨fun h => by unfold zj; rw [(Zz _ _).2 (by omega)]; rfl, fun h => ?_⟩
 have hT : zj l = Yv (yC l) l.length 0 := by
  unfold zj
  rw [show Nat.blt 4096 l.length = false from Bool.eq_false_iff.2 fun e => by have := (Zz _ _).1 e; omega]
  rfl
 have hat : ∀ z v, z < l.length → (∀ i, i < z → yC l i = 0) → yC l z = v → v ≠ 0 → v = zj l := fun z v hz z2 hv hv0 => by
  rw [hT, wP (k := z) hz z2 (by rw [hv]; exact hv0), hv]
 refine ⟨⟨0, ⟨by omega, fun i hi => by omega⟩, rfl⟩, fun z ⟨z1, z2⟩ => ⟨fun hz => ?_, fun hz => ?_⟩⟩
 ·have hin : (0 : Int) ≤ (z : Int) ∧ (z : Int) < (l.length : Int) := ⟨by omega, hz⟩
  refine ⟨hin, hin, hin, hin, fun _ => hin, zT.2 ⟨fun c => ?_, fun c => ?_⟩⟩
  ·exact hat z 2 (by omega) z2 (by unfold yC; rw [c]; rfl) (by decide)
  ·refine ⟨fun hp => ⟨by omega, by omega⟩, fun hp => ?_, fun _ => hin, zT.2 ⟨fun c2 => ?_, fun c2 => ⟨⟨by omega, by omega⟩, z + 1, ⟨⟨by omega, fun i hi => ?_⟩, by omega⟩, by omega⟩⟩⟩
   ·have := (Zz _ _).1 hp; omega
   ·exact hat z 10 (by omega) z2 (by unfold yC; rw [c, c2]; rfl) (by decide)
   ·by_cases e : i = z
    ·rw [e]; unfold yC; rw [c, c2]; rfl
    ·exact z2 i (by omega)
 ·rw [hT, wI fun i hi => z2 i (by omega)]
theorem SE (l : List Row) : zW Tryz.prog [] 20 [yI l] (.i (zj l)) :=
 zt (T := PE) (an := se l) mixed sq (Eq.mp (by kernel_rfl) (sH l))
theorem xC : zn Tryz.prog [] 20 YT := by
 intro xs ps r h hp
 unfold YT at h
 split at h
 ·skip
  rename_i x_l
  cases h
  obtain ⟨q0, -⟩ := Yc hp
  exact weaken (ys := [yI (rowsOf x_l)]) ⟨zH q0, trivial⟩ (SE (rowsOf x_l))
 ·cases h
end Go.Te
