/- rounding: Share. -/
import Derived.Test.YtgpbohfbhfbelaaGreatDoorTkIk
import Derived.Test.YtgpbohfbhfbelaaGreatDoorArAE
import Derived.Test.YtgpbohfbhfbelaaGreatDoorTkQc
import Derived.Test.YtgpbohfbhfbelaaGreatDoorTkWh
import Derived.Test.YtgpbohfbhfbelaaGreatDoorTkI0
import Derived.Test.YtgpbohfbhfbelaaGreatDoorTkQi
import Derived.ChangeArms
import Derived.Lib.LaidTab
set_option linter.unusedSimpArgs false
set_option linter.unusedVariables false
namespace Go.Te
open Go Go.Sx Go.Proofs Go.Ar
set_option maxRecDepth 100000
set_option maxHeartbeats 4000000
def rV (l : List Nat) : OB := .arr 3 1 l.length fun i _ => .i ((l.getD i 0 : Nat) : Int)
def El : AV → Nat
 | .np k _ => k
 | _ => 0
def vC (l : List Nat) : List Int := l.map fun x : Nat => (x : Int)
theorem qb (w : List Int) : Zn (α := Int) (AV.xl false 1 w.length fun i j => AV.v (Value.int .i64 (w.getD i zR.dflt))) = w := wH w
theorem UK (w : List Int) : ze Int (AV.xl false 1 w.length fun i j => AV.v (Value.int .i64 (w.getD i zR.dflt))) = true := Xj w
structure Nl (T : Int) (w : List Int) : Prop where
 tot : 0 ≤ T ∧ T ≤ 1000
 wts : ∀ x ∈ w, 0 ≤ x ∧ x ≤ 1000
 len : w.length ≤ 10
def xV (T : Int) (w : List Int) (S i : Int) : Int := T * w.getD i.toNat 0 % S
structure gk (T : Int) (w : List Int) (S i : Int) : Prop where
 c : Nl T w
 s : 0 < S
 i : 0 ≤ i ∧ i < w.length
def GZ (T : Int) (w : List Int) (S : Int) : Nat → AV := zw [.xq 1 (fun _ => .i T) 0, .xq 1 (fun _ => Zl w) 0, .xq 1 (fun _ => .i S) 0]
theorem SR {T : Int} {w : List Int} (h : Nl T w) (i : Nat) : 0 ≤ w.getD i 0 ∧ w.getD i 0 ≤ 1000 := by
 rw [List.getD_eq_getElem?_getD]
 by_cases hi : i < w.length
 ·rw [List.getElem?_eq_getElem hi]
  exact h.wts _ (List.getElem_mem hi)
 ·rw [List.getElem?_eq_none (by omega)]
  exact ⟨by decide, by decide⟩
theorem SG {T : Int} {w : List Int} (h : Nl T w) (i : Nat) : 0 ≤ T * w.getD i 0 ∧ T * w.getD i 0 ≤ 1000000 := by
 obtain ⟨a, b⟩ := SR h i
 obtain ⟨c, d⟩ := h.tot
 refine ⟨Int.mul_nonneg c a, ?_⟩
 have := Int.mul_le_mul d b a (by decide)
 omega
theorem GP (T S : Int) (w : List Int) (i : Int) (h : gk T w S i) :
 zB [aI i, AV.xq 1 (fun (x : Nat) => aI T) 0, AV.xq 1 (fun (x : Nat) => xI w) 0, AV.xq 1 (fun (x : Nat) => aI S) 0] → bF (DB.db (iZ ≤ i ∧ i < (lZ w))) (bF (dK (T * gD w (Int.toNat i) zR.dflt)) (bF (DB.db (S ≠ iZ)) (kI ∧ Int.tmod (T * gD w (Int.toNat i) zR.dflt) S = xV T w S i))) := by
 delta bF dK xI kI lZ gD iZ aI
 intro hb
 simp only [sS, qb, UK, dS]
 have := SG h.c i.toNat
 have hs := h.s
 have e0 : (zR.dflt : Int) = 0 := rfl
 rw [e0]
 unfold xV
 refine ⟨h.i, by simp only [ZB]; omega, by omega, ?_⟩
 rw [Int.tmod_eq_emod_of_nonneg this.1]
def gV : List AV → Option (List zN × AV)
 | [.v (.int .i64 i), .xq 1 a 0, .xq 1 b 0, .xq 1 c 0] => some ([.b (Z4 (a 0)), .b (ze Int (b 0)), .b (Z4 (c 0)), .p (gk (AV.int (a 0)) (Zn (b 0)) (AV.int (c 0)) i)], .i (xV (AV.int (a 0)) (Zn (b 0)) (AV.int (c 0)) i))
 | _ => none
theorem FD : zQ Tryz.prog [] 56 gV := by
 intro xs ps r h hp
 unfold gV at h
 split at h
 ·rename_i i a b c
  cases h
  have q0 : Z4 (a 0) = true := hp _ List.mem_cons_self
  have q1 : ze Int (b 0) = true := hp _ (List.mem_cons_of_mem _ List.mem_cons_self)
  have q2 : Z4 (c 0) = true := hp _ (List.mem_cons_of_mem _ (List.mem_cons_of_mem _ List.mem_cons_self))
  have q3 := hp _ (List.mem_cons_of_mem _ (List.mem_cons_of_mem _ (List.mem_cons_of_mem _ List.mem_cons_self)))
  refine weaken (ys := [.i i, .xq 1 (fun _ => .i (AV.int (a 0))) 0, .xq 1 (fun _ => Zl (Zn (α := Int) (b 0))) 0, .xq 1 (fun _ => .i (AV.int (c 0))) 0]) ⟨zV _, ⟨rfl, rfl, ?_⟩, ⟨rfl, rfl, ?_⟩, ⟨rfl, rfl, ?_⟩, trivial⟩
   (zW mixed zr (Eq.mp (by kernel_rfl) (GP (AV.int (a 0)) (AV.int (c 0)) (Zn (b 0)) i q3) : vP Tryz.prog T0 56 .auto [.i i, .xq 1 (fun _ => .i (AV.int (a 0))) 0, .xq 1 (fun _ => Zl (Zn (α := Int) (b 0))) 0, .xq 1 (fun _ => .i (AV.int (c 0))) 0] (.i (xV (AV.int (a 0)) (Zn (b 0)) (AV.int (c 0)) i))))
  ·exact xh fun i hi => by (obtain rfl : i = 0 := (by omega)); exact Zj (XI q0)
  ·exact xh fun i hi => by (obtain rfl : i = 0 := (by omega)); exact zI q1
  ·exact xh fun i hi => by (obtain rfl : i = 0 := (by omega)); exact Zj (XI q2)
 ·cases h
def fk (T : Int) (w : List Int) (S : Int) : AV := .xq 1 (fun _ => .fn (.func 56) 0 (fun _ => .junk) 3 (GZ T w S)) 0
structure kD (T : Int) (w : List Int) (S i k : Int) : Prop where
 a : gk T w S i
 b : gk T w S k
theorem Hd (T S : Int) (w : List Int) (i k : Int) (h : kD T w S i k) :
 let q2 := (xI w); let q1 := (ze Int q2); let q3 := (Zn q2); zB [aI i, aI k, AV.xq 1 (fun (x : Nat) => AV.fn (Fn.func (56 : FuncId)) 0 (fun (x : Nat) => AV.junk) 3 (GZ T w S)) 0] → bF q1 (gk (AV.int (aI T)) q3 (AV.int (aI S)) k ∧ bF q1 (gk (AV.int (aI T)) q3 (AV.int (aI S)) i ∧ kI ∧ Yh (xV (AV.int (aI T)) q3 (AV.int (aI S)) k)
 (xV (AV.int (aI T)) q3 (AV.int (aI S)) i) = Yh (xV T w S k) (xV T w S i))) := by
 delta bF xI kI aI
 dsimp only
 intro hb
 simp only [sS, qb, UK, dS]
 exact ⟨h.b, h.a⟩
def M5 : List AV → Option (List zN × AV)
 | [.v (.int .i64 i), .v (.int .i64 k), .xq 1 d 0] =>
  match d 0 with
  | .fn (.func f) 0 _ 3 c =>
   match c 0, c 1, c 2 with
   | .xq 1 x 0, .xq 1 y 0, .xq 1 z 0 => bif Nat.beq f 56 then some ([.b (Z4 (x 0)), .b (ze Int (y 0)), .b (Z4 (z 0)), .p (kD (AV.int (x 0)) (Zn (y 0)) (AV.int (z 0)) i k)], .i (Yh (xV (AV.int (x 0)) (Zn (y 0)) (AV.int (z 0)) k) (xV (AV.int (x 0)) (Zn (y 0)) (AV.int (z 0)) i))) else none
   | _, _, _ => none
  | _ => none
 | _ => none
theorem FY : zQ Tryz.prog [] 58 M5 := by
 intro xs ps r h hp
 unfold M5 at h
 split at h
 ·rename_i i k d
  split at h
  ·rename_i f a c hd
   split at h
   ·rename_i x y z hx hy hz
    cases hf : Nat.beq f 56 with
    | false => rw [hf] at h; cases h
    | true =>
     rw [hf] at h
     cases h
     obtain rfl := Nat.eq_of_beq_eq_true hf
     have q0 : Z4 (x 0) = true := hp _ List.mem_cons_self
     have q1 : ze Int (y 0) = true := hp _ (List.mem_cons_of_mem _ List.mem_cons_self)
     have q2 : Z4 (z 0) = true := hp _ (List.mem_cons_of_mem _ (List.mem_cons_of_mem _ List.mem_cons_self))
     have q3 := hp _ (List.mem_cons_of_mem _ (List.mem_cons_of_mem _ (List.mem_cons_of_mem _ List.mem_cons_self)))
     refine weaken (ys := [.i i, .i k, fk (AV.int (x 0)) (Zn (y 0)) (AV.int (z 0))]) ⟨zV _, zV _, ⟨rfl, rfl, ?_⟩, trivial⟩
      (zW mixed (zz.plus (zz.plus zr FD) RX) (Eq.mp (by kernel_rfl) (Hd (AV.int (x 0)) (AV.int (z 0)) (Zn (y 0)) i k q3) : vP Tryz.prog ((T0.plus 56 gV).plus 31 uR) 58 .auto [.i i, .i k, fk (AV.int (x 0)) (Zn (y 0)) (AV.int (z 0))] (.i (Yh (xV (AV.int (x 0)) (Zn (y 0)) (AV.int (z 0)) k) (xV (AV.int (x 0)) (Zn (y 0)) (AV.int (z 0)) i)))))
     refine xh fun m hm => ?_
     obtain rfl : m = 0 := by omega
     show zi (d 0) _
     rw [hd]
     refine ⟨rfl, rfl, rfl, trivial, xh fun j hj => ?_⟩
     match j, hj with
     | 0, _ =>
      show zi (c 0) _
      rw [hx]
      exact ⟨rfl, rfl, xh fun i hi => by (obtain rfl : i = 0 := (by omega)); exact Zj (XI q0)⟩
     | 1, _ =>
      show zi (c 1) _
      rw [hy]
      exact ⟨rfl, rfl, xh fun i hi => by (obtain rfl : i = 0 := (by omega)); exact zI q1⟩
     | 2, _ =>
      show zi (c 2) _
      rw [hz]
      exact ⟨rfl, rfl, xh fun i hi => by (obtain rfl : i = 0 := (by omega)); exact Zj (XI q2)⟩
   ·cases h
  ·cases h
 ·cases h
end Go.Te

namespace Go.Te
open Go Go.Sx Go.Proofs Go.Ar
set_option maxRecDepth 100000
set_option maxHeartbeats 4000000
def y5 (r : Nat → Nat) (n z : Nat) : List Nat := yE r (min z n) ++ List.range' z (n - z)
def wg (r : Nat → Nat) (n i j : Nat) : List Nat := (yE r i).take j ++ i :: ((yE r i).drop j ++ List.range' (i + 1) (n - (i + 1)))
def I3 (r : Nat → Nat) (n : Nat) : yV :=
 .two .auto (.one (.loop Nat (fun σ z => [(0, σ.tm 0), (1, σ.tm 1), (2, σ.tm 2), (3, σ.tm 3), (8, .i (z : Int))]) (fun σ z => [(yC (σ.tm 0), rV (y5 r n z))]) 0 (fun σ z => 1 ≤ z ∧ z ≤ max n 1) (fun σ z => n + 1 - z) (.two .auto (.two (.one (.two .auto (.one (.loop Nat (fun σ z => [(0, σ.tm 0), (1, σ.tm 1), (2, σ.tm 2), (3, σ.tm 3), (8, σ.tm 8), (9, .i (z : Int))]) (fun σ z => [(yC (σ.tm 0), rV (wg r n (AV.int (σ.tm 8)).toNat z))]) 0 (fun σ z => z ≤ (AV.int (σ.tm 8)).toNat ∧ ∀ y ∈ (yE r (AV.int (σ.tm 8)).toNat).drop z, r y < r (AV.int (σ.tm 8)).toNat) (fun σ z => z) .auto)))) .auto))))
def IA  : yV :=
 .two .auto (.two .auto (.two (.one (.loop Unit (fun σ z => [(0, σ.tm 0), (1, σ.tm 1), (2, σ.tm 2), (6, σ.tm 6), (7, .i 0), (8, .i 20)]) (fun σ z => []) 0 (fun σ z => True) (fun σ z => 0) .auto)) (.two .auto (.one (.loop Unit (fun σ z => [(0, σ.tm 0), (1, σ.tm 1), (2, σ.tm 2), (6, .i 20)]) (fun σ z => []) 0 (fun σ z => True) (fun σ z => 0) (.two .auto (.one (.two .auto (.two (.one (.loop Unit (fun σ z => [(0, σ.tm 0), (1, σ.tm 1), (2, σ.tm 2), (6, σ.tm 6), (7, .i 0), (8, .i 40)]) (fun σ z => []) 0 (fun σ z => True) (fun σ z => 0) .auto)) .auto)))))))))
def II  : yV :=
 .two .auto (.two (.two .auto (.one (.loop Nat (fun σ z => [(0, σ.tm 0), (1, σ.tm 1), (7, σ.tm 7), (8, .i (z : Int))]) (fun σ z => []) 0 (fun σ z => 0 ≤ z) (fun σ z => 100 - z) .auto))) .auto)
def ZA (w : List Int) : Int := w.sum
def Zv (T : Int) (w : List Int) : Nat → Nat := xX T.toNat (w.map Int.toNat).sum (w.map Int.toNat)
def UY (T : Int) (w : List Int) : Nat → Nat := ww T.toNat (w.map Int.toNat).sum (w.map Int.toNat)
def YC (T : Int) (w : List Int) (z : Nat) : List Nat := (List.range w.length).map fun i => if i < z then UY T w i else 0
def YL (n z : Nat) : List Nat := (List.range n).map fun i => if i < z then i else 0
def xd (T : Int) (w : List Int) (z : Nat) : Int := T - ((List.range z).map (UY T w)).sum
def Xa (T : Int) (w : List Int) (z : Nat) : List Nat := (List.range w.length).map fun i => UY T w i + if i ∈ (yE (Zv T w) w.length).take z then 1 else 0
def HR (T : Int) (w : List Int) : yV :=
 .two .auto (.two .auto (.two .auto (.two .auto (.two (.two .auto (.one (.loop Nat (fun σ z => [(2, σ.tm 2), (3, σ.tm 3), (7, σ.tm 7), (30, σ.tm 30), (31, σ.tm 31), (32, .i (z : Int))]) (fun σ z => [(El (σ.tm 7), .box 3 1 (fun _ => .i (ZA (w.take z))))]) 0 (fun σ z => z ≤ w.length) (fun σ z => w.length - z) .auto))) (.two .auto (.join Unit (fun σ z => [(2, σ.tm 2), (3, σ.tm 3), (7, σ.tm 7), (10, .ns σ.nb 0 w.length), (11, .ns (σ.nb + 1) 0 w.length)]) (fun σ z => [(σ.nb, rV (YC T w 0)), (σ.nb + 1, rV (YL w.length 0))]) 2 (fun σ z => True) .auto (.two .auto (.two (.two .auto (.one (.loop Nat (fun σ z => [(2, σ.tm 2), (3, σ.tm 3), (7, σ.tm 7), (10, σ.tm 10), (11, σ.tm 11), (49, σ.tm 49), (50, σ.tm 50), (12, .i (xd T w z)), (51, .i (z : Int))]) (fun σ z => [(yC (σ.tm 10), rV (YC T w z)), (yC (σ.tm 11), rV (YL w.length z))]) 0 (fun σ z => z ≤ w.length) (fun σ z => w.length - z) (.two .auto (.two .auto (.two (.one (.two .auto (.join Unit (fun σ _ => [(2, σ.tm 2), (3, σ.tm 3), (7, σ.tm 7), (10, σ.tm 10), (11, σ.tm 11), (12, σ.tm 12), (13, σ.tm 13), (49, σ.tm 49), (50, σ.tm 50), (51, σ.tm 51)]) (fun σ _ => [(yC (σ.tm 10), rV (YC T w ((AV.int (σ.tm 51)).toNat + 1))), (yC (σ.tm 11), rV (YL w.length ((AV.int (σ.tm 51)).toNat + 1)))]) 0 (fun _ _ => True) .auto .auto))) .auto)))))) (.two .auto (.two .auto (.two (.two .auto (.one (.loop Nat (fun σ z => [(10, σ.tm 10), (81, σ.tm 81), (82, σ.tm 82), (83, .i (z : Int))]) (fun σ z => [(yC (σ.tm 10), rV (Xa T w z))]) 0 (fun σ z => z ≤ (xd T w w.length).toNat) (fun σ z => w.length - z) .auto))) .auto)))))))))))
noncomputable def Es (r : Nat → Nat) (n : Nat) : Tb := ((((T0.plus 58 M5).plus 170 (gL (.b true))).body Tryz.prog [(54, .auto), (169, I3 r n)]).body Tryz.prog [(111, II), (112, IA)]).body Tryz.prog [(55, .auto), (57, .auto)]
theorem No (r : Nat → Nat) (n : Nat) : zz Tryz.prog (Es r n) := zz.body mixed (zz.body mixed (zz.body mixed (zz.plus (zz.plus zr FY) (qq _)) _) _) _
theorem gB (n : Int) : Z4 (.v (.int .i64 n)) = true := rfl
theorem tk : ∀ {w : List Int}, (∀ x ∈ w, 0 ≤ x) → ZA w = ((w.map Int.toNat).sum : Nat)
 | [], _ => rfl
 | x :: w, h => by
  have := tk (w := w) fun y hy => h y (List.mem_cons_of_mem _ hy)
  have h0 := h x List.mem_cons_self
  unfold ZA at *
  rw [List.sum_cons, this, List.map_cons, List.sum_cons]
  omega
theorem tU {T : Int} {w : List Int} (h : Nl T w) (i : Nat) : w.getD i 0 = (((w.map Int.toNat).getD i 0 : Nat) : Int) := by
 have := SR h i
 rw [List.getD_eq_getElem?_getD] at this
 rw [List.getD_eq_getElem?_getD, List.getD_eq_getElem?_getD, List.getElem?_map]
 cases hx : w[i]? with
 | none => rfl
 | some x =>
  rw [hx] at this
  have : 0 ≤ x := this.1
  show x = ((x.toNat : Nat) : Int)
  omega
theorem Ks {T : Int} {w : List Int} (h : Nl T w) (i : Nat) : (T * w.getD i 0).tdiv (((w.map Int.toNat).sum : Nat) : Int) = ((UY T w i : Nat) : Int) := by
 have hm := SG h i
 have hT : T = (T.toNat : Int) := by have := h.tot; omega
 rw [Int.tdiv_eq_ediv_of_nonneg hm.1, tU h, hT]
 unfold UY ww
 rw [Int.toNat_natCast, ← Int.natCast_mul, ← Int.natCast_ediv]
theorem oJ {T : Int} {w : List Int} (h : Nl T w) (i : Nat) : xV T w (((w.map Int.toNat).sum : Nat) : Int) i = ((Zv T w i : Nat) : Int) := by
 have hT : T = (T.toNat : Int) := by have := h.tot; omega
 unfold xV
 rw [Int.toNat_natCast, tU h, hT]
 unfold Zv xX
 rw [Int.toNat_natCast, ← Int.natCast_mul, ← Int.natCast_emod]
theorem pP {T : Int} {w : List Int} (h : Nl T w) (i : Nat) : UY T w i ≤ 1000000 := by
 have hm := SG h i
 have hT : T = (T.toNat : Int) := by have := h.tot; omega
 rw [tU h, hT, ← Int.natCast_mul] at hm
 exact Nat.le_trans (Nat.div_le_self _ _) (by omega)
theorem x3 {f : Nat → Nat} {n i : Nat} (hi : i < n) : ((List.range n).map f).getD i 0 = f i := by
 rw [List.getD_eq_getElem?_getD, List.getElem?_map, List.getElem?_range hi]
 rfl
theorem vx (T : Int) (w : List Int) (z : Nat) : (YC T w z).length = w.length := by unfold YC; rw [List.length_map, List.length_range]
theorem VT (n z : Nat) : (YL n z).length = n := by unfold YL; rw [List.length_map, List.length_range]
theorem VJ (T : Int) (w : List Int) (z : Nat) : (Xa T w z).length = w.length := by unfold Xa; rw [List.length_map, List.length_range]
theorem VV (r : Nat → Nat) (n z : Nat) : (y5 r n z).length = n := by
 unfold y5
 rw [List.length_append, yB, List.length_range']
 omega
theorem t7 (r : Nat → Nat) {n i j : Nat} (hi : i < n) (hj : j ≤ i) : (wg r n i j).length = n := by
 unfold wg
 rw [List.length_append, List.length_cons, List.length_append, List.length_take, List.length_drop, yB, List.length_range']
 omega
theorem Kq (n : Nat) : YL n n = List.range n := by
 unfold YL
 refine (List.map_congr_left fun i hi => ?_).trans (List.map_id _)
 rw [if_pos (List.mem_range.1 hi)]; rfl
theorem lV (r : Nat → Nat) (n : Nat) : y5 r n 1 = List.range n := by
 unfold y5
 rcases Nat.eq_zero_or_pos n with rfl | h
 ·rfl
 ·rw [show min 1 n = 1 by omega, List.range_eq_range', show n = 1 + (n - 1) by omega]
  rw [show 1 + (n - 1) - 1 = n - 1 by omega, ← List.range'_append_1]
  rfl
theorem Md (r : Nat → Nat) {n i : Nat} (hi : i < n) : wg r n i i = y5 r n i := by
 unfold wg y5
 have e : min i n = i := by omega
 have l := yB r i
 rw [e, List.take_of_length_le (by omega), List.drop_of_length_le (by omega), List.nil_append, show n - i = (n - (i + 1)) + 1 by omega, List.range'_succ]
theorem KH (r : Nat → Nat) {n i j : Nat} (hj : j ≤ i) : (wg r n i j).getD j 0 = i ∧ ∀ k, j = k + 1 → (wg r n i j).getD k 0 = (yE r i).getD k 0 := by
 have l := yB r i
 have lt : ((yE r i).take j).length = j := by rw [List.length_take]; omega
 unfold wg
 constructor
 ·rw [List.getD_eq_getElem?_getD, List.getElem?_append_right (by omega), lt, Nat.sub_self]; rfl
 ·rintro k rfl
  rw [List.getD_eq_getElem?_getD, List.getElem?_append_left (by omega), List.getElem?_take, if_pos (by omega), List.getD_eq_getElem?_getD]
theorem Le {r : Nat → Nat} {i k : Nat} (h : k < i) : (yE r i).getD k 0 < i := by
 have l := yB r i
 rw [List.getD_eq_getElem?_getD, List.getElem?_eq_getElem (by omega)]
 exact VS.1 (List.getElem_mem _)
theorem Oa (r : Nat → Nat) {n i k m : Nat} (hk : k + 1 ≤ i) : (wg r n i k).getD m 0 = if m = k then i else if m = k + 1 then (yE r i).getD k 0 else (wg r n i (k + 1)).getD m 0 := by
 have l := yB r i
 have lt : ((yE r i).take k).length = k := by rw [List.length_take]; omega
 have lt2 : ((yE r i).take (k + 1)).length = k + 1 := by rw [List.length_take]; omega
 have hd : (yE r i).drop k = (yE r i).getD k 0 :: (yE r i).drop (k + 1) := by
  rw [List.drop_eq_getElem_cons (by omega), List.getD_eq_getElem?_getD, List.getElem?_eq_getElem (by omega)]; rfl
 unfold wg
 rw [hd]
 simp only [List.getD_eq_getElem?_getD]
 rcases Nat.lt_or_ge m k with h | h
 ·rw [if_neg (by omega), if_neg (by omega), List.getElem?_append_left (by omega), List.getElem?_append_left (by omega), List.getElem?_take, List.getElem?_take, if_pos (by omega), if_pos (by omega)]
 ·rw [List.getElem?_append_right (by omega), lt]
  by_cases h1 : m = k
  ·subst h1; rw [if_pos rfl, Nat.sub_self]; rfl
  ·rw [if_neg h1]
   by_cases h2 : m = k + 1
   ·subst h2; rw [if_pos rfl, show k + 1 - k = 1 by omega]; rfl
   ·rw [if_neg h2, List.getElem?_append_right (by omega), lt2]
    obtain ⟨p, rfl⟩ : ∃ p, m = k + 2 + p := ⟨m - (k + 2), by omega⟩
    rw [show k + 2 + p - k = p + 1 + 1 by omega, show k + 2 + p - (k + 1) = p + 1 by omega]
    rfl
theorem sf {r : Nat → Nat} {n i j : Nat} (hi : i < n) (hj : j ≤ i) (h : ∀ y ∈ (yE r i).drop j, r y < r i) (hk : ∀ k, j = k + 1 → r i ≤ r ((yE r i).getD k 0)) : wg r n i j = y5 r n (i + 1) := by
 have e := oI (r := r) (x := i) (VQ r i) (by rw [yB]; exact hj) h hk
 have e1 : yE r (i + 1) = TJ r i (yE r i) := rfl
 unfold wg y5
 rw [show min (i + 1) n = i + 1 by omega, e1, e, List.append_assoc]
 rfl
theorem nA {r : Nat → Nat} {n z : Nat} (h1 : 1 ≤ z) (h2 : z ≤ max n 1) (h : n ≤ z) : y5 r n z = yE r n := by
 unfold y5
 rw [show min z n = n by omega, show n - z = 0 by omega]
 exact List.append_nil _
theorem M4 {T : Int} {w : List Int} {z i : Nat} (hz : z < w.length) (hi : i < w.length) : (Xa T w (z + 1)).getD i 0 = if i = (yE (Zv T w) w.length).getD z 0 then (Xa T w z).getD i 0 + 1 else (Xa T w z).getD i 0 := by
 have hn : (yE (Zv T w) w.length).Nodup := (Xt _ _).nodup_iff.2 List.nodup_range
 have hl := yB (Zv T w) w.length
 unfold Xa
 rw [x3 hi, x3 hi]
 generalize yE (Zv T w) w.length = O at *
 have e : O.take (z + 1) = O.take z ++ [O.getD z 0] := by
  rw [List.take_succ_eq_append_getElem (by omega), List.getD_eq_getElem?_getD, List.getElem?_eq_getElem (by omega)]; rfl
 have nd : O.getD z 0 ∉ O.take z := fun hm => by
  have := hn.sublist (List.take_sublist (z + 1) O)
  rw [e, List.nodup_append] at this
  exact this.2.2 _ hm _ List.mem_cons_self rfl
 rw [e]
 by_cases h : i = O.getD z 0
 ·rw [if_pos h, if_pos (List.mem_append.2 (.inr (by rw [h]; exact List.mem_cons_self))), if_neg (by rw [h]; exact nd)]
 ·rw [if_neg h]
  by_cases h2 : i ∈ O.take z
  ·rw [if_pos h2, if_pos (List.mem_append.2 (.inl h2))]
  ·rw [if_neg h2, if_neg fun hm => (List.mem_append.1 hm).elim h2 fun hm => h (List.mem_singleton.1 hm)]
theorem P9 (l : List Nat) (i : Nat) : (vC l).getD i 0 = ((l.getD i 0 : Nat) : Int) := by
 unfold vC
 rw [List.getD_eq_getElem?_getD, List.getD_eq_getElem?_getD, List.getElem?_map]
 cases l[i]? <;> rfl
theorem jy (T : Int) (w : List Int) : Yv T.toNat (w.map Int.toNat) = Xa T w (w9 T.toNat (w.map Int.toNat).sum (w.map Int.toNat)) := by
 unfold Yv Xa more
 rw [List.length_map]
 rfl
def Xg (w : List Int) : Int := if ZA w = 0 then 12 else 0
def WK (T : Int) (w : List Int) : List Int := if ZA w = 0 then [] else vC (Yv T.toNat (w.map Int.toNat))
def mS : List AV → Option (List zN × AV)
 | [.v (.int .i64 T), x_w] => some ([.b (ze Int x_w), .p (Nl T (zU x_w))], .tup 2 (zw [Zl (WK T (zU x_w)), .i (Xg (zU x_w))]))
 | _ => none
theorem gv (T : Int) (w : List Int) (h : Nl T w) :
 let q2 := (True ∧ Value.slice (Xd Addr) 0 0 = Value.slice (Xd Addr) 0 0 ∧ lN (WK T w) = 0); let q1 := (j2 ∧ q2 ∧ kI ∧ (2 : Int) = Xg w); let q3 := (xI w); let q4 := (AV.fn (Fn.func 54) 0 (fun (x : Nat) => AV.junk) 0 fun (x : Nat) => AV.junk); let q5 := (kI ∧ (lZ w) = (lZ w)); let q6 := (3 = 3 ∧ 1 = 1 ∧ kI ∧ T = T); let q9 := (q6 ∧ 50 = 50 ∧ 1 = 1 ∧ zi q3 q3); let q10 := (DB.db ((0 :
 Int) ≤ (lZ w) ∧ (lZ w) ≤ (lZ w) ∧ (↑8 : Int) * (lZ w) ≤ (140737488355328 : Int))); let q13 := (nat_lit 3 = 3 ∧ 0 = 0 ∧ lN w = lN w); let q14 := (nat_lit 3 + 1 = 4 ∧ 0 = 0 ∧ lN w = lN w); let q22 := (AV.fn (Fn.func 58) 0 (fun (i : Nat) => AV.junk) 1 fun i => Option.getD [AV.np (nat_lit 5) 0][i]? AV.junk); let q23 := (kI ∧ (20 : Int) = (20 : Int)); let q24 := (kI ∧ iZ = iZ); let q27 := (AV.fn (Fn.func 56) 0 (fun (i : Nat) => AV.junk) 3 fun i =>
 Option.getD [AV.np (nat_lit 0) 0, AV.np (nat_lit 1) 0, AV.np (nat_lit 2) 0][i]? AV.junk); let q37 := (Zn q3); let q69 := ((True ∧ 0 < 0) ∧ q14 ∧ q5 ∧ zi q22 q22 ∧ kI ∧ (20 : Int) * (2 : Int) = (20 : Int)); zB [aI T, xI w] → bF (!zS false (zM T iZ) || zS false (zM T iZ)) (bF (!!zM T iZ || zS false (zM T iZ)) (zZ (bif zM T iZ then true else zM (1073741824 : Int) T) q1 (zZ (zM (4096 : Int) (lZ w))
 (j2 ∧ q2 ∧ kI ∧ (4 : Int) = Xg w) ((∃ (z : Nat), (0 ≤ z ∧ zi q3 q3 ∧ zi q4 q4 ∧ q5 ∧ kI ∧ iZ = (cI z)) ∧ q6 ∧ 50 = 50 ∧ 1 = 1 ∧ zi q3 q3) ∧ ∀ (z : Nat), let q8 := (gD w (Int.toNat (cI z)) zR.dflt); let q7 := (zM q8 iZ); 0 ≤ z → zZ (zM (cI z) (lZ w)) (bF (DB.db (iZ ≤ (cI z) ∧ (cI z) < (lZ w))) (bF (!zS false q7 || zS false q7) (bF (!!zM q8 iZ || zS false q7) (zZ (bif zM q8 iZ then true else zM
 (1073741824 : Int) q8) q1 (bF (dK ((cI z) + iO)) (∃ (z' : Nat), ((0 ≤ z' ∧ 100 - z' < 100 - z) ∧ zi q3 q3 ∧ zi q4 q4 ∧ q5 ∧ kI ∧ (cI z) + iO = (cI z')) ∧ q6 ∧ 50 = 50 ∧ 1 = 1 ∧ zi q3 q3)))))) ((∃ (z : Nat), (z ≤ lN w ∧ (nat_lit 0 = 0 ∧ 0 = 0) ∧ (nat_lit 1 = 1 ∧ 0 = 0) ∧ (nat_lit 2 = 2 ∧ 0 = 0) ∧ zi q3 q3 ∧ q5 ∧ kI ∧ iZ = (cI z)) ∧ q9 ∧ (3 : TypeId) = 3 ∧ 1 = 1 ∧ kI ∧ iZ = ZA (List.take z w)) ∧ ∀ (z : Nat), let q12 := (q9 ∧ 3 = 3 ∧ 1 = 1 ∧
 kI ∧ ZA (List.take z w) = ZA (List.take z w)); let q11 := (bF q10 (∃ (z_1 : Unit), (True ∧ (nat_lit 0 = 0 ∧ 0 = 0) ∧ (nat_lit 1 = 1 ∧ 0 = 0) ∧ (nat_lit 2 = 2 ∧ 0 = 0) ∧ (nat_lit 3 = 3 ∧ 0 = 0 ∧ lN w = Int.toNat (lZ w)) ∧ nat_lit 3 + 1 = 4 ∧ 0 = 0 ∧ lN w = Int.toNat (lZ w)) ∧ (q12 ∧ (3 : TypeId) = 3 ∧ 1 = 1 ∧ lN (YC T w 0) = Int.toNat (lZ w) ∧ ∀ (i j : Nat), i < Int.toNat (lZ w) → j < 1 → zi (ZC (Value.int .i64 iZ) j) (aI (cI (gD (YC T w
 0) i 0)))) ∧ (3 : TypeId) = 3 ∧ 1 = 1 ∧ lN (YL (lN w) 0) = Int.toNat (lZ w) ∧ ∀ (i j : Nat), i < Int.toNat (lZ w) → j < 1 → zi (ZC (Value.int .i64 iZ) j) (aI (cI (gD (YL (lN w) 0) i 0))))); let q36 := (aI (ZA (List.take z w))); let q38 := (AV.int q36); z ≤ lN w → zZ (zM (cI z) (lZ w)) (bF (DB.db (iZ ≤ (cI z) ∧ (cI z) < (lZ w))) (bF (dK (ZA (List.take z w) +
 gD w (Int.toNat (cI z)) zR.dflt)) (bF (dK ((cI z) + iO)) (∃ (z' : Nat), ((z' ≤ lN w ∧ lN w - z' < lN w - z) ∧ (nat_lit 0 = 0 ∧ 0 = 0) ∧ (nat_lit 1 = 1 ∧ 0 = 0) ∧ (nat_lit 2 = 2 ∧ 0 = 0) ∧ zi q3 q3 ∧ q5 ∧ kI ∧ (cI z) + iO = (cI z')) ∧ q9 ∧ 3 = 3 ∧ 1 = 1 ∧ kI ∧ ZA (List.take z w) + gD w (Int.toNat (cI z)) zR.dflt = ZA (List.take z' w))))) (zZ (ZA (List.take z w) == iZ) (j2 ∧ q2 ∧ kI ∧ (12
 : Int) = Xg w) ((bF q10 q11 ∧ bF q10 q11) ∧ ∀ (z_1 : Unit), True → (∃ (z_2 : Nat), (z_2 ≤ lN w ∧ (nat_lit 0 = 0 ∧ 0 = 0) ∧ (nat_lit 1 = 1 ∧ 0 = 0) ∧ (nat_lit 2 = 2 ∧ 0 = 0) ∧ q13 ∧ q14 ∧ zi q3 q3 ∧ q5 ∧ (kI ∧ T = xd T w z_2) ∧ kI ∧ iZ = (cI z_2)) ∧ (q12 ∧ 3 = 3 ∧ 1 = 1 ∧ lN (YC T w z_2) = lN (YC T w 0) ∧ ∀ (i j : Nat), i < lN (YC T w 0) → j < 1 → kI ∧ (cI (gD (YC T w 0) i 0)) = (cI (gD (YC T w z_2) i 0))) ∧ 3 = 3 ∧ 1 = 1 ∧ lN (YL
 (lN w) z_2) = lN (YL (lN w) 0) ∧ ∀ (i j : Nat), i < lN (YL (lN w) 0) → j < 1 → kI ∧ (cI (gD (YL (lN w) 0) i 0)) = (cI (gD (YL (lN w) z_2) i 0))) ∧ ∀ (z_2 : Nat), let q15 := (DB.db (iZ ≤ (cI z_2) ∧ (cI z_2) < (lZ w))); let q16 := (T * gD w (Int.toNat (cI z_2)) zR.dflt); let q17 := (Int.tdiv q16 (ZA (List.take z w))); let q19 := (Int.toNat (AV.int (aI (cI z_2))) + 1); let q18 := (YC T w q19); let q20 := (YL
 (lN w) q19); let q21 := (cI (gD q18 (0 + Int.toNat (↑z_2 : Int)) 0)); let q25 := (q12 ∧ 3 = 3 ∧ 1 = 1 ∧ lN (YC T w z_2) = lN (YC T w z_2) ∧ ∀ (i j : Nat), i < lN (YC T w z_2) → j < 1 → kI ∧ (cI (gD (YC T w z_2) i 0)) = (cI (gD (YC T w z_2) i 0))); let q70 := (nat_lit 3 + 1 = 4 ∧ 0 = 0 ∧ Int.toNat (xd T w z_2) = Int.toNat (xd T w z_2)); let q71 := (kI ∧ (cI (Int.toNat (xd T w z_2))) = (cI (Int.toNat (xd T w z_2)))); z_2 ≤ lN w → zZ (zM (cI z_2)
 (lZ w)) (bF q15 (zZ (dK q16) (bF (DB.db (ZA (List.take z w) ≠ iZ)) (bF (dK q17) (bF q15 (bF q15 (∃ (z_3 : Unit), (True ∧ (nat_lit 0 = 0 ∧ 0 = 0) ∧ (nat_lit 1 = 1 ∧ 0 = 0) ∧ (nat_lit 2 = 2 ∧ 0 = 0) ∧ q13 ∧ q14 ∧ (kI ∧ xd T w z_2 = xd T w z_2) ∧ (kI ∧ (cI z_2) = (cI z_2)) ∧ zi q3 q3 ∧ q5 ∧ kI ∧ (cI z_2) = (cI z_2)) ∧ (q12 ∧ 3 = 3 ∧ 1 = 1 ∧ lN q18 = lN (YC T w z_2) ∧ ∀ (i j : Nat), i < lN (YC T w z_2) → j < 1 → zi (if i
 = 0 + Int.toNat (cI z_2) ∧ 0 ≤ j ∧ j < 1 then aI q17 else aI (cI (gD (YC T w z_2) i 0))) (aI (cI (gD q18 i 0)))) ∧ 3 = 3 ∧ 1 = 1 ∧ lN q20 = lN (YL (lN w) z_2) ∧ ∀ (i j : Nat), i < lN (YL (lN w) z_2) → j < 1 → zi (if i = 0 + Int.toNat (cI z_2) ∧ 0 ≤ j ∧ j < 1 then aI (cI z_2) else aI (cI (gD (YL (lN w) z_2) i 0))) (aI (cI (gD q20 i 0))))))))
 False ∧ ∀ (z_3 : Unit), True → bF q15 (bF (dK (xd T w z_2 - q21)) (bF (dK ((cI z_2) + iO)) (∃ (z' : Nat), ((z' ≤ lN w ∧ lN w - z' < lN w - z_2) ∧ (nat_lit 0 = 0 ∧ 0 = 0) ∧ (nat_lit 1 = 1 ∧ 0 = 0) ∧ (nat_lit 2 = 2 ∧ 0 = 0) ∧ q13 ∧ q14 ∧ zi q3 q3 ∧ q5 ∧ (kI ∧ xd T w z_2 - q21 = xd T w z') ∧ kI ∧ (cI z_2) + iO = (cI z')) ∧ (q12 ∧ 3 = 3 ∧ 1 = 1 ∧ lN (YC T w z') = lN q18 ∧ ∀ (i j : Nat), i < lN q18 → j < 1 → kI ∧ (cI (List.getD
 q18 i 0)) = (cI (gD (YC T w z') i 0))) ∧ 3 = 3 ∧ 1 = 1 ∧ lN (YL (lN w) z') = lN q20 ∧ ∀ (i j : Nat), i < lN q20 → j < 1 → kI ∧ (cI (gD q20 i 0)) = (cI (gD (YL (lN w) z') i 0))))))) ((∃ (z_3 : Unit), (True ∧ q14 ∧ q5 ∧ zi q22 q22 ∧ q23 ∧ q24 ∧ kI ∧ (20 : Int) = (20 : Int)) ∧ (q25 ∧ 3 = 3 ∧ 1 = 1 ∧ lN (YL (lN w) z_2) = lN (YL (lN w) z_2) ∧ ∀ (i j : Nat), let q26 := (↑(gD (YL (lN w) z_2) i 0) :
 Int); i < lN (YL (lN w) z_2) → j < 1 → kI ∧ q26 = q26) ∧ 87 = 87 ∧ 1 = 1 ∧ zi q27 q27) ∧ ∀ (z_3 : Unit), True → zZ (leB (20 : Int) (lZ w)) ((∃ (z_4 : Nat), ((1 ≤ z_4 ∧ z_4 ≤ max (lN w) 1) ∧ q14 ∧ q24 ∧ q23 ∧ zi q22 q22 ∧ kI ∧ iZ + iO = (cI z_4)) ∧ (q25 ∧ 3 = 3 ∧ 1 = 1 ∧ lN (y5 (Zv T w) (lN w) z_4) = lN (YL (lN w) z_2) ∧ ∀ (i j : Nat), i < lN (YL (lN w) z_2) → j < 1 → kI ∧ (↑(gD (YL (lN w) z_2) i 0)
 : Int) = (cI (gD (y5 (Zv T w) (lN w) z_4) i 0))) ∧ 87 = 87 ∧ 1 = 1 ∧ zi q27 q27) ∧ ∀ (z_4 : Nat), let q28 := (AV.int (aI (cI z_4))); let q30 := (Int.toNat q28); let q29 := (yE (Zv T w) q30); let q31 := (kI ∧ (cI z_4) = (cI z_4)); 1 ≤ z_4 ∧ z_4 ≤ max (lN w) 1 → zZ (zM (cI z_4) (20 : Int)) ((∃ (z_5 : Nat), let q32 := (wg (Zv T w) (lN w) q30 z_5); ((z_5 ≤ Int.toNat q28 ∧ ∀ (y : Nat), List.Mem y (List.drop z_5 q29) → Zv T w y < Zv T w q30) ∧ q14 ∧ q24 ∧ q23 ∧ zi q22 q22 ∧ q31 ∧
 kI ∧ (cI z_4) = (cI z_5)) ∧ (q25 ∧ 3 = 3 ∧ 1 = 1 ∧ lN q32 = lN (y5 (Zv T w) (lN w) z_4) ∧ ∀ (i j : Nat), i < lN (y5 (Zv T w) (lN w) z_4) → j < 1 → kI ∧ (cI (gD (y5 (Zv T w) (lN w) z_4) i 0)) = (cI (gD q32 i 0))) ∧ 87 = 87 ∧ 1 = 1 ∧ zi q27 q27) ∧ ∀ (z_5 : Nat), let q33 := (!zS true (zM iZ (cI z_5)) || zS true (zM iZ (cI z_5))); let q34 := (iZ ≤ (cI z_5) ∧ (cI z_5) < (lZ w)); let q35 := (iZ ≤ (↑z_5 :
 Int) - iO ∧ (cI z_5) - iO < (lZ w)); let q40 := (wg (Zv T w) (lN w) q30 z_5); let q39 := (cI (gD q40 (0 + Int.toNat (↑z_5 : Int)) 0)); let q41 := (cI (gD q40 (0 + Int.toNat ((↑z_5 : Int) - iO)) 0)); let q42 := (dK ((cI z_5) - iO)); let q43 := (DB.db q35); let q44 := (DB.db q34); let q47 := (bF q42 (∃ (z' : Nat), let q48 := (wg (Zv T w) (lN w) q30 z'); (((z' ≤ Int.toNat q28 ∧ ∀ (y : Nat), List.Mem y (List.drop z' q29) → Zv T w y < Zv T w q30) ∧ z' < z_5) ∧ q14 ∧ q24 ∧ q23 ∧
 zi q22 q22 ∧ q31 ∧ kI ∧ (cI z_5) - iO = (cI z')) ∧ (q25 ∧ 3 = 3 ∧ 1 = 1 ∧ lN q48 = lN q40 ∧ ∀ (i j : Nat), i < lN q40 → j < 1 → zi (if i = 0 + Int.toNat ((cI z_5) - iO) ∧ 0 ≤ j ∧ j < 1 then aI q39 else if i = 0 + Int.toNat (cI z_5) ∧ 0 ≤ j ∧ j < 1 then aI q41 else aI (cI (gD q40 i 0))) (aI (cI (gD q48 i 0)))) ∧ 87 = 87 ∧ 1 = 1 ∧ zi q27 q27)); let q46 := (bF q43 q47); let q45 := (bF q42 q46 ∧ zZ
 q42 q46 False); (z_5 ≤ Int.toNat q28 ∧ ∀ (y : Nat), List.Mem y (List.drop z_5 q29) → Zv T w y < Zv T w q30) → bF q33 (bF q33 (bF (!zS true (zM iZ (cI z_5)) || DB.db q34) (bF q33 (bF q33 (bF (!zS true (zM iZ (cI z_5)) || dK ((cI z_5) - iO)) (bF q33 (bF q33 (bF (!zS true (zM iZ (cI z_5)) || DB.db q35) (bF q33 (bF q33 (bF q33 (bF q33 (bF (!zS true (zM iZ (cI z_5)) || Z4 (aI T)) (bF (!zS true (zM iZ (cI z_5)) || ze Int
 q3) (bF (!zS true (zM iZ (cI z_5)) || Z4 q36) ((zS true (zM iZ (cI z_5)) = true → kD (AV.int (aI T)) q37 q38 q39 q41) ∧ bF q33 (bF (!zM iZ (cI z_5) || zS true (zM iZ (cI z_5))) (zZ (bif zM iZ (cI z_5) then zM (Yh (xV (AV.int (aI T)) q37 q38 q41) (xV (AV.int (aI T)) q37 q38 q39)) iZ else false) (bF q42 (bF q43 (bF q44 (bF q44 ((q45 ∧ bF q42 q46) ∧ (q45 ∧ zZ q42 (bF q43 q47 ∧ bF q43 q47)
 False ∧ bF q42 q46) ∧ bF q42 q46))))) (bF (dK ((cI z_4) + iO)) (∃ (z' : Nat), (((1 ≤ z' ∧ z' ≤ max (lN w) 1) ∧ lN w + 1 - z' < lN w + 1 - z_4) ∧ q14 ∧ q24 ∧ q23 ∧ zi q22 q22 ∧ kI ∧ (cI z_4) + iO = (cI z')) ∧ (q25 ∧ 3 = 3 ∧ 1 = 1 ∧ lN (y5 (Zv T w) (lN w) z') = lN q40 ∧ ∀ (i j : Nat), i < lN q40 → j < 1 → kI ∧ (cI (gD q40 i 0)) = (cI (gD (y5 (Zv T w) (lN w) z') i 0))) ∧ 87 = 87
 ∧ 1 = 1 ∧ zi q27 q27))))))))))))))))))))) (∃ (z' : Unit), ((True ∧ 0 < 0) ∧ q14 ∧ q5 ∧ zi q22 q22 ∧ q23 ∧ (kI ∧ (20 : Int) = iZ) ∧ kI ∧ (20 : Int) + (20 : Int) = (20 : Int)) ∧ (q25 ∧ 3 = 3 ∧ 1 = 1 ∧ lN (YL (lN w) z_2) = lN (y5 (Zv T w) (lN w) z_4) ∧ ∀ (i j : Nat), i < lN (y5 (Zv T w) (lN w) z_4) → j < 1 → kI ∧ (cI (gD (y5 (Zv T w) (lN w) z_4) i
 0)) = (cI (gD (YL (lN w) z_2) i 0))) ∧ 87 = 87 ∧ 1 = 1 ∧ zi q27 q27)) ((∃ (z_4 : Nat), ((1 ≤ z_4 ∧ z_4 ≤ max (lN w) 1) ∧ q14 ∧ q24 ∧ q5 ∧ zi q22 q22 ∧ kI ∧ iZ + iO = (cI z_4)) ∧ (q25 ∧ 3 = 3 ∧ 1 = 1 ∧ lN (y5 (Zv T w) (lN w) z_4) = lN (YL (lN w) z_2) ∧ ∀ (i j : Nat), i < lN (YL (lN w) z_2) → j < 1 → kI ∧ (cI (gD (YL (lN w) z_2) i 0)) = (cI (gD (y5 (Zv T w) (lN w) z_4) i 0))) ∧ 87 = 87 ∧ 1 = 1 ∧ zi q27
 q27) ∧ ∀ (z_4 : Nat), let q49 := (AV.int (aI (cI z_4))); let q51 := (Int.toNat q49); let q50 := (yE (Zv T w) q51); let q52 := (kI ∧ (cI z_4) = (cI z_4)); let q67 := (q25 ∧ 3 = 3 ∧ 1 = 1 ∧ lN (y5 (Zv T w) (lN w) z_4) = lN (y5 (Zv T w) (lN w) z_4) ∧ ∀ (i j : Nat), let q68 := (cI (gD (y5 (Zv T w) (lN w) z_4) i 0)); i < lN (y5 (Zv T w) (lN w) z_4) → j < 1 → kI ∧ q68 = q68); 1 ≤ z_4 ∧ z_4 ≤ max (lN w) 1 → zZ (zM (cI z_4)
 (lZ w)) ((∃ (z_5 : Nat), let q53 := (wg (Zv T w) (lN w) q51 z_5); ((z_5 ≤ Int.toNat q49 ∧ ∀ (y : Nat), List.Mem y (List.drop z_5 q50) → Zv T w y < Zv T w q51) ∧ q14 ∧ q24 ∧ q5 ∧ zi q22 q22 ∧ q52 ∧ kI ∧ (cI z_4) = (cI z_5)) ∧ (q25 ∧ 3 = 3 ∧ 1 = 1 ∧ lN q53 = lN (y5 (Zv T w) (lN w) z_4) ∧ ∀ (i j : Nat), i < lN (y5 (Zv T w) (lN w) z_4) → j < 1 → kI ∧ (cI (gD (y5 (Zv T w) (lN w) z_4) i 0)) = (cI (gD q53 i 0))) ∧ 87 = 87 ∧ 1 = 1 ∧ zi q27
 q27) ∧ ∀ (z_5 : Nat), let q54 := (!zS true (zM iZ (cI z_5)) || zS true (zM iZ (cI z_5))); let q55 := (iZ ≤ (cI z_5) ∧ (cI z_5) < (lZ w)); let q56 := (iZ ≤ (cI z_5) - iO ∧ (cI z_5) - iO < (lZ w)); let q58 := (wg (Zv T w) (lN w) q51 z_5); let q57 := (cI (gD q58 (0 + Int.toNat (↑z_5 : Int)) 0)); let q59 := (cI (gD q58 (0 + Int.toNat ((↑z_5 : Int) - iO)) 0)); let q60 := (dK ((cI z_5) - iO)); let q61 := (DB.db q56); let q62 :=
 (DB.db q55); let q65 := (bF q60 (∃ (z' : Nat), let q66 := (wg (Zv T w) (lN w) q51 z'); (((z' ≤ Int.toNat q49 ∧ ∀ (y : Nat), List.Mem y (List.drop z' q50) → Zv T w y < Zv T w q51) ∧ z' < z_5) ∧ q14 ∧ q24 ∧ q5 ∧ zi q22 q22 ∧ q52 ∧ kI ∧ (cI z_5) - iO = (cI z')) ∧ (q25 ∧ 3 = 3 ∧ 1 = 1 ∧ lN q66 = lN q58 ∧ ∀ (i j : Nat), i < lN q58 → j < 1 → zi (if i = 0 + Int.toNat ((cI z_5) - iO) ∧ 0 ≤ j ∧ j < 1 then aI q57 else if i = 0 + Int.toNat (cI z_5) ∧ 0 ≤ j ∧ j < 1 then AV.v (Value.int .i64
 q59) else aI (cI (gD q58 i 0))) (aI (cI (gD q66 i 0)))) ∧ 87 = 87 ∧ 1 = 1 ∧ zi q27 q27)); let q64 := (bF q61 q65); let q63 := (bF q60 q64 ∧ bF q60 q64); (z_5 ≤ Int.toNat q49 ∧ ∀ (y : Nat), List.Mem y (List.drop z_5 q50) → Zv T w y < Zv T w q51) → bF q54 (bF q54 (bF (!zS true (zM iZ (cI z_5)) || DB.db q55) (bF q54 (bF q54 (bF (!zS true (zM iZ (cI z_5)) || dK ((cI z_5) - iO)) (bF q54 (bF q54 (bF (!zS true
 (zM iZ (cI z_5)) || DB.db q56) (bF q54 (bF q54 (bF q54 (bF q54 (bF (!zS true (zM iZ (cI z_5)) || Z4 (aI T)) (bF (!zS true (zM iZ (cI z_5)) || ze Int q3) (bF (!zS true (zM iZ (cI z_5)) || Z4 q36) ((zS true (zM iZ (cI z_5)) = true → kD (AV.int (aI T)) q37 q38 q57 q59) ∧ bF q54 (bF (!zM iZ (cI z_5) || zS true (zM iZ (cI z_5))) (zZ (bif zM iZ (cI z_5) then zM (Yh (xV (AV.int (aI T))
 q37 q38 q59) (xV (AV.int (aI T)) q37 q38 q57)) iZ else false) (bF q60 (bF q61 (bF q62 (bF q62 ((q63 ∧ bF q60 q64) ∧ (q63 ∧ bF q60 (bF q61 q65 ∧ bF q61 q65) ∧ bF q60 q64) ∧ bF q60 q64))))) (bF (dK ((cI z_4) + iO)) (∃ (z' : Nat), (((1 ≤ z' ∧ z' ≤ max (lN w) 1) ∧ lN w + 1 - z' < lN w + 1 - z_4) ∧ q14 ∧ q24 ∧ q5 ∧ zi q22 q22 ∧ kI ∧ (cI z_4) + iO = (cI z')) ∧ (q25 ∧ 3 = 3 ∧ 1 = 1 ∧
 lN (y5 (Zv T w) (lN w) z') = lN q58 ∧ ∀ (i j : Nat), i < lN q58 → j < 1 → kI ∧ (cI (gD q58 i 0)) = (cI (gD (y5 (Zv T w) (lN w) z') i 0))) ∧ 87 = 87 ∧ 1 = 1 ∧ zi q27 q27))))))))))))))))))))) ((∃ (z_5 : Unit), (True ∧ q14 ∧ q5 ∧ zi q22 q22 ∧ kI ∧ (20 : Int) = (20 : Int)) ∧ q67 ∧ 87 = 87 ∧ 1 = 1 ∧ zi q27 q27) ∧ ∀ (z_5 : Unit), True → zZ (zM (20 : Int) (↑(lN w) :
 Int)) ((∃ (z_6 : Unit), (True ∧ q14 ∧ q5 ∧ zi q22 q22 ∧ q23 ∧ q24 ∧ kI ∧ (2 : Int) * (20 : Int) = (40 : Int)) ∧ q67 ∧ 87 = 87 ∧ 1 = 1 ∧ zi q27 q27) ∧ ∀ (z_6 : Unit), True → zZ (leB (40 : Int) (lZ w)) (False ∧ ∃ (z' : Unit), ((True ∧ 0 < 0) ∧ q14 ∧ q5 ∧ zi q22 q22 ∧ q23 ∧ (kI ∧ (40 : Int) = iZ) ∧ kI ∧ (40 : Int) + (2 : Int) * (20 : Int) = (40 : Int)) ∧ q67 ∧ 87 = 87 ∧ 1 = 1 ∧ zi q27 q27) (zZ (zM (iZ + (20 : Int)) (lZ w)) (False ∧ ∃ (z' : Unit), q69 ∧ q67 ∧ 87 = 87 ∧ 1 = 1 ∧ zi q27 q27)
 (∃ (z' : Unit), q69 ∧ q67 ∧ 87 = 87 ∧ 1 = 1 ∧ zi q27 q27))) (bF (DB.db (iZ ≤ xd T w z_2 ∧ xd T w z_2 ≤ (lZ w))) ((∃ (z_6 : Nat), (z_6 ≤ Int.toNat (xd T w (lN w)) ∧ q13 ∧ q70 ∧ q71 ∧ kI ∧ iZ = (cI z_6)) ∧ ((q12 ∧ 3 = 3 ∧ 1 = 1 ∧ lN (Xa T w z_6) = lN (YC T w z_2) ∧ ∀ (i j : Nat), i < lN (YC T w z_2) → j < 1 → kI ∧ (cI (gD (YC T w z_2) i 0)) = (cI (gD (Xa T w z_6) i 0))) ∧ 3 = 3 ∧ 1 = 1 ∧ lN (y5 (Zv T w) (lN w) z_4) = List.length
 (y5 (Zv T w) (lN w) z_4) ∧ ∀ (i j : Nat), let q72 := (cI (gD (y5 (Zv T w) (lN w) z_4) i 0)); i < lN (y5 (Zv T w) (lN w) z_4) → j < 1 → kI ∧ q72 = q72) ∧ 87 = 87 ∧ 1 = 1 ∧ zi q27 q27) ∧ ∀ (z_6 : Nat), let q74 := (cI (gD (y5 (Zv T w) (lN w) z_4) (0 + Int.toNat (↑z_6 : Int)) 0)); let q73 := (DB.db (iZ ≤ q74 ∧ q74 < (lZ w))); let q75 := ((cI (gD (Xa T w z_6) (0 + Int.toNat q74) 0)) + iO); z_6 ≤ Int.toNat (xd T w (lN w)) → zZ (zM (↑z_6 :
 Int) (cI (Int.toNat (xd T w z_2)))) (bF (DB.db (iZ ≤ (cI z_6) ∧ (cI z_6) < (cI (Int.toNat (xd T w z_2))))) (bF q73 (bF (dK q75) (bF q73 (bF (dK ((cI z_6) + iO)) (∃ (z' : Nat), ((z' ≤ Int.toNat (xd T w (lN w)) ∧ lN w - z' < lN w - z_6) ∧ q13 ∧ q70 ∧ q71 ∧ kI ∧ (cI z_6) + iO = (cI z')) ∧ ((q12 ∧ 3 = 3 ∧ 1 = 1 ∧ lN (Xa T w z') = lN (Xa T w z_6) ∧ ∀ (i j : Nat), i < lN (Xa T w z_6) → j < 1 → zi (if i = 0 + Int.toNat q74 ∧
 0 ≤ j ∧ j < 1 then aI q75 else aI (cI (gD (Xa T w z_6) i 0))) (aI (cI (gD (Xa T w z') i 0)))) ∧ 3 = 3 ∧ 1 = 1 ∧ lN (y5 (Zv T w) (lN w) z_4) = lN (y5 (Zv T w) (lN w) z_4) ∧ ∀ (i j : Nat), let q76 := (cI (gD (y5 (Zv T w) (lN w) z_4) i 0)); i < lN (y5 (Zv T w) (lN w) z_4) → j < 1 → kI ∧ q76 = q76) ∧ 87 = 87 ∧ 1 = 1 ∧ zi q27 q27)))))) (j2 ∧ (True ∧
 zi (AV.xl false 1 (lN w) fun i j => aI (cI (gD (Xa T w z_6) (0 + i) 0))) (xI (WK T w))) ∧ kI ∧ iZ = Xg w))))))))))))) := by
 delta bF dK xI cI kI j2 lZ lN gD iZ iO aI
 dsimp only
 intro hb
 simp only [↓Zf, ↓Zu, row_one]
 simp only [sS, qb, UK, gB, dS]
 have e0 : (zR.dflt : Int) = 0 := rfl
 rw [e0]
 have hl := h.len
 have hT := h.tot
 have hS : ∀ z, ZA (w.take z) = (((w.take z).map Int.toNat).sum : Nat) := fun z => tk fun x hx => (h.wts x (List.mem_of_mem_take hx)).1
 refine zY.2 ⟨fun c => ?_, fun _ => ⟨fun h4 => by omega, fun _ => ⟨⟨0, rfl⟩, fun z _ => ⟨fun hz => ⟨⟨by omega, hz⟩, zY.2 ⟨fun c => ?_, fun _ => ⟨by simp only [ZB]; omega, z + 1, by omega, by omega⟩⟩⟩, fun _ => ?_⟩⟩⟩⟩
 ·rw [Bool.or_eq_true, zq, zq] at c
  omega
 ·have := SR h z
  rw [Bool.or_eq_true, zq, zq] at c
  omega
 refine ⟨⟨0, ⟨Nat.zero_le _, rfl⟩, rfl⟩, fun z hz => ⟨fun hlt => ?_, fun hge => ?_⟩⟩
 ·have e1 := hS z
  have e2 := hS (z + 1)
  have w1 := SR h z
  have key : ZA (w.take z) + w.getD z 0 = ZA (w.take (z + 1)) := by
   unfold ZA
   rw [List.take_succ_eq_append_getElem (by omega), List.sum_append, List.getD_eq_getElem?_getD, List.getElem?_eq_getElem (by omega)]
   simp
  have bd : ∀ k, ZA (w.take k) ≤ 10 * 1000 := fun k => by
   rw [hS]
   have := vF (B := 1000) (f := Int.toNat ∘ fun i => w.getD i 0) (l := List.range w.length) fun i _ => by have := SR h i; simp only [Function.comp]; omega
   have q := tI (w.map Int.toNat)
   have le : ((w.take k).map Int.toNat).sum ≤ (w.map Int.toNat).sum := by
    conv => rhs; rw [← List.take_append_drop k w, List.map_append, List.sum_append]
    omega
   rw [List.length_map] at q
   have e : ((List.range w.length).map (Int.toNat ∘ fun i => w.getD i 0)).sum = (w.map Int.toNat).sum := by
    rw [← q]
    congr 1
    refine List.map_congr_left fun i _ => ?_
    have := tU h i
    simp only [Function.comp]
    omega
   rw [e, List.length_range] at this
   have l2 : w.length * 1000 ≤ 10 * 1000 := Nat.mul_le_mul_right _ hl
   omega
  have b1 := bd z
  exact ⟨⟨by omega, by omega⟩, by simp only [ZB]; omega, by simp only [ZB]; omega, z + 1, ⟨⟨by omega, by omega⟩, by omega⟩, key⟩
 obtain rfl : z = w.length := by omega
 have hSw := hS w.length
 rw [List.take_length] at hSw ⊢
 refine ⟨fun h0 => ⟨rfl, by unfold WK; rw [if_pos h0]; rfl, by unfold Xg; rw [if_pos h0]⟩, fun h0 => ⟨and_self_iff.2 ⟨⟨by omega, by omega, by omega⟩, ⟨by omega, by omega, by omega⟩, (), ⟨vx _ _ _, fun i j hi hj => ?_⟩, VT _ _, fun i j hi hj => ?_⟩, fun _ _ => ?_⟩⟩
 ·obtain rfl : j = 0 := by omega
  unfold YC
  rw [x3 hi, if_neg (Nat.not_lt_zero _)]
  exact zV _
 ·obtain rfl : j = 0 := by omega
  unfold YL
  rw [x3 hi, if_neg (Nat.not_lt_zero _)]
  exact zV _
 have hE : Xg w = 0 := by unfold Xg; rw [if_neg h0]
 have hO : WK T w = vC (Yv T.toNat (w.map Int.toNat)) := by unfold WK; rw [if_neg h0]
 rw [hE, hO, hSw]
 have hs0 : 0 < (w.map Int.toNat).sum := by omega
 have bq : ∀ z, z ≤ w.length → ((List.range z).map (UY T w)).sum ≤ 10 * 1000000 := fun z hz => by
  have := vF (B := 1000000) (f := UY T w) (l := List.range z) fun i _ => pP h i
  rw [List.length_range] at this
  exact Nat.le_trans this (Nat.mul_le_mul_right _ (Nat.le_trans hz hl))
 refine ⟨⟨0, ⟨Nat.zero_le _, by unfold xd; simp, rfl⟩, ⟨rfl, fun _ _ _ _ => rfl⟩, rfl, fun _ _ _ _ => rfl⟩, fun z hz => ⟨fun hlt => ?_, fun hge => ?_⟩⟩
 ·have hzl : z < w.length := by omega
  have m := SG h z
  have q := Ks h z
  have ql := pP h z
  have eo : (YC T w (z + 1)).getD z 0 = UY T w z := by unfold YC; rw [x3 hzl, if_pos (by omega)]
  have el : xd T w z - (UY T w z : Int) = xd T w (z + 1) := by
   unfold xd
   rw [List.range_succ, List.map_append, List.sum_append]
   simp only [List.map_cons, List.map_nil, List.sum_cons, List.sum_nil]
   omega
  have b1 := bq z hz
  have bl : xd T w z = T - ((List.range z).map (UY T w)).sum := rfl
  rw [q, eo]
  refine ⟨⟨by omega, hlt⟩, ⟨by simp only [ZB]; omega, by omega, by simp only [ZB]; omega, ⟨by omega, hlt⟩, ⟨by omega, hlt⟩, (), ⟨by rw [vx, vx], fun i j hi hj => ?_⟩, by rw [VT, VT], fun i j hi hj => ?_⟩, fun _ _ => ⟨⟨by omega, hlt⟩, by simp only [ZB]; omega, by simp only [ZB]; omega, z + 1, ⟨⟨by omega, by omega⟩, el, by omega⟩, ⟨rfl, fun _ _ _ _ => rfl⟩, rfl, fun _ _ _ _ => rfl⟩⟩
  ·rw [vx] at hi
   unfold YC
   rw [x3 hi, x3 hi]
   by_cases e : i = z
   ·subst e; rw [if_pos ⟨rfl, hj⟩, if_pos (by omega)]; exact zV _
   ·rw [if_neg fun c => e c.1]
    by_cases e2 : i < z
    ·rw [if_pos e2, if_pos (by omega)]; exact zV _
    ·rw [if_neg e2, if_neg (by omega)]; exact zV _
  ·rw [VT] at hi
   unfold YL
   rw [x3 hi, x3 hi]
   by_cases e : i = z
   ·subst e; rw [if_pos ⟨rfl, hj⟩, if_pos (by omega)]; exact zV _
   ·rw [if_neg fun c => e c.1]
    by_cases e2 : i < z
    ·rw [if_pos e2, if_pos (by omega)]; exact zV _
    ·rw [if_neg e2, if_neg (by omega)]; exact zV _
 obtain rfl : z = w.length := by omega
 refine ⟨⟨(), fun _ _ _ _ => trivial, fun _ _ _ _ => trivial⟩, fun _ _ => ⟨fun h20 => by omega, fun _ => ⟨⟨1, ⟨⟨by omega, by omega⟩, rfl⟩, fun _ _ _ _ => trivial, by rw [VV, VT], fun i j _ _ => by rw [Kq, lV]⟩, fun y ⟨y1, y2⟩ => ⟨fun ylt => ?_, fun yge => ?_⟩⟩⟩⟩
 ·refine ⟨⟨y, ⟨⟨Nat.le_refl _, fun q hq => ?_⟩, rfl⟩, fun _ _ _ _ => trivial, by rw [t7 _ (by omega) (Nat.le_refl _), VV], fun i j _ _ => by rw [Md _ (by omega)]⟩, fun q ⟨q1, q2⟩ => ?_⟩
  ·rw [List.drop_of_length_le (by rw [yB]; exact Nat.le_refl _)] at hq
   exact absurd hq List.not_mem_nil
  have q2 : ∀ x ∈ (yE (Zv T w) y).drop q, Zv T w x < Zv T w y := q2
  have iy := KH (Zv T w) (n := w.length) q1
  have hyl : y < w.length := by omega
  have hil := t7 (Zv T w) (n := w.length) hyl q1
  rcases Nat.eq_zero_or_pos q with hq0 | hq0
  ·subst hq0
   have l0 : zM 0 ((0 : Nat) : Int) = false := rfl
   rw [l0]
   refine ⟨fun h => (by cases h), fun h => (by cases h), fun h => (by cases h), fun h => (by cases h), zY.2 ⟨fun c => (by cases c), fun _ => ?_⟩⟩
   have dn := sf (r := Zv T w) hyl q1 q2 fun k e => by omega
   exact ⟨by simp only [ZB]; omega, y + 1, ⟨⟨⟨by omega, by omega⟩, by omega⟩, by omega⟩, fun _ _ _ _ => trivial, by rw [hil, VV], fun i j _ _ => by rw [dn]⟩
  obtain ⟨k, rfl⟩ : ∃ k, q = k + 1 := ⟨q - 1, by omega⟩
  have l1 : zM 0 ((k + 1 : Nat) : Int) = true := (zq _ _).2 (by omega)
  have ek : (((k + 1 : Nat) : Int) - 1).toNat = k := by omega
  have e1 := iy.1
  have e2 := iy.2 k rfl
  have ok := Le (r := Zv T w) (i := y) (k := k) (by omega)
  rw [l1, ek, e1, e2]
  have i0 : ZB .i64 (((k + 1 : Nat) : Int) - 1) := by simp only [ZB]; omega
  refine ⟨fun _ => ⟨by omega, by omega⟩, fun _ => i0, fun _ => ⟨by omega, by omega⟩, fun _ => ⟨⟨h, by omega, by omega, by omega⟩, ⟨h, by omega, by omega, by omega⟩⟩, ?_⟩
  rw [oJ h, oJ h, Bool.true_and]
  have hlt : zM (Yh ((Zv T w ((yE (Zv T w) y).getD k 0) : Nat) : Int) ((Zv T w y : Nat) : Int)) 0 = true ↔ Zv T w ((yE (Zv T w) y).getD k 0) < Zv T w y := by
   unfold Yh
   cases h1 : zM ((Zv T w ((yE (Zv T w) y).getD k 0) : Nat) : Int) ((Zv T w y : Nat) : Int) with
   | true => have := (zq _ _).1 h1; exact ⟨fun _ => by omega, fun _ => rfl⟩
   | false =>
    have h1 : ¬ ((Zv T w ((yE (Zv T w) y).getD k 0) : Nat) : Int) < ((Zv T w y : Nat) : Int) := fun e => by rw [(zq _ _).2 e] at h1; cases h1
    refine ⟨fun h2 => ?_, fun h2 => absurd h2 (by omega)⟩
    revert h2
    cases ((Zv T w ((yE (Zv T w) y).getD k 0) : Nat) : Int) == ((Zv T w y : Nat) : Int) <;> (intro h2; cases h2)
  refine zY.2 ⟨fun c => ?_, fun c => ?_⟩
  ·have c := hlt.1 c
   have hdr : ∀ x ∈ (yE (Zv T w) y).drop k, Zv T w x < Zv T w y := fun x hx => by
    rw [List.drop_eq_getElem_cons (by rw [yB]; omega)] at hx
    rcases List.mem_cons.1 hx with e | hx
    ·rw [e]
     rw [List.getD_eq_getElem?_getD, List.getElem?_eq_getElem (by rw [yB]; omega)] at c
     exact c
    ·exact q2 x hx
   have hil2 := t7 (Zv T w) (n := w.length) (j := k) hyl (by omega)
   repeat' apply And.intro
   all_goals first
    | omega
    | exact i0
    | exact ⟨k, ⟨⟨⟨by omega, hdr⟩, by omega⟩, by omega⟩, fun _ _ _ _ => trivial, by rw [hil, hil2], fun a b ha hb => by
      rw [Oa (k := k) (m := a) (Zv T w) (by omega)]
      by_cases h1 : a = k
      ·subst h1
       simp only [hb, and_true, if_true, show ¬ (a = a + 1) from by omega, if_false]
       exact zV _
      ·by_cases h2 : a = k + 1
       ·subst h2
        simp only [hb, and_true, if_true, show ¬ (k + 1 = k) from by omega, if_false]
        exact zV _
       ·simp only [h1, h2, false_and, if_false]
        exact zV _⟩
  ·have dn := sf (r := Zv T w) hyl q1 q2 fun k' e => by
    obtain rfl : k = k' := by omega
    exact Nat.le_of_not_lt fun e => by rw [hlt.2 e] at c; cases c
   exact ⟨by simp only [ZB]; omega, y + 1, ⟨⟨⟨by omega, by omega⟩, by omega⟩, by omega⟩, fun _ _ _ _ => trivial, by rw [hil, VV], fun i j _ _ => by rw [dn]⟩
 have hOd := nA (r := Zv T w) y1 y2 (by omega)
 have hL : xd T w w.length = ((w9 T.toNat (w.map Int.toNat).sum (w.map Int.toNat) : Nat) : Int) := by
  have h1 := (tA (T := T.toNat) hs0).2
  have e : ((List.range (w.map Int.toNat).length).map (ww T.toNat (w.map Int.toNat).sum (w.map Int.toNat))).sum = ((List.range w.length).map (UY T w)).sum := by rw [List.length_map]; rfl
  unfold xd
  rw [e] at h1
  omega
 have hLn := (Vw (T := T.toNat) hs0).1
 rw [List.length_map] at hLn
 have fin := jy T w
 rw [hOd, hL, Int.toNat_natCast]
 generalize w9 T.toNat (w.map Int.toNat).sum (w.map Int.toNat) = L at *
 have ql : ∀ i, i < w.length → ∀ k, (Xa T w k).getD i 0 ≤ 1000001 := fun i hi k => by
  unfold Xa
  rw [x3 hi]
  have := pP h i
  split <;> omega
 refine ⟨⟨(), fun _ _ _ _ => trivial, fun _ _ _ _ => trivial⟩, fun _ _ => ⟨fun _ => by omega, fun _ => ⟨⟨by omega, by omega⟩, ⟨0, ⟨Nat.zero_le _, rfl⟩, ⟨by rw [VJ, vx], fun i j hi _ => ?_⟩, fun _ _ _ _ => trivial⟩, fun k hk => ⟨fun klt => ?_, fun kge => ?_⟩⟩⟩⟩
 ·rw [vx] at hi
  unfold YC Xa
  rw [x3 hi, x3 hi, if_pos hi, if_neg (by rw [List.take_zero]; exact List.not_mem_nil)]
  rfl
 ·have kl : k < w.length := by omega
  have ol := Le (r := Zv T w) kl
  refine ⟨⟨by omega, by omega⟩, ⟨by omega, by omega⟩, ?_, ⟨by omega, by omega⟩, by simp only [ZB]; omega, k + 1, ⟨⟨by omega, by omega⟩, by omega⟩, ⟨by rw [VJ, VJ], fun i j hi hj => ?_⟩, fun _ _ _ _ => trivial⟩
  ·have := ql _ ol k
   simp only [ZB]; omega
  ·rw [VJ] at hi
   rw [M4 kl hi]
   by_cases e : i = (yE (Zv T w) w.length).getD k 0
   ·rw [if_pos ⟨e, hj⟩, if_pos e, ← e, Int.natCast_add]
    exact zV _
   ·rw [if_neg fun c => e c.1, if_neg e]
    exact zV _
 ·obtain rfl : k = L := by omega
  refine ⟨rfl, ⟨fun h => (by cases h), rfl, ?_, fun i j _ _ => ?_⟩, rfl⟩
  ·unfold vC
   rw [List.length_map, fin, VJ]
  ·show zi (AV.v _) (AV.v _)
   rw [P9, fin]
   exact zV _
theorem Jd (T : Int) (w : List Int) (h : Nl T w) : zv Tryz.prog [] 22 [.i T, Zl w] (.tup 2 (zw [Zl (WK T w), .i (Xg w)])) :=
 zW (T := Es (Zv T w) w.length) (an := HR T w) mixed (No _ _) (Eq.mp (by kernel_rfl) (gv T w h))
theorem G6 : zQ Tryz.prog [] 22 mS := by
 intro xs ps r h hp
 unfold mS at h
 split at h
 ·skip
  rename_i T x_w
  cases h
  obtain ⟨q0, q1, -⟩ := ZT hp
  exact weaken (ys := [.i T, Zl (zU x_w)]) ⟨zV _, zI q0, trivial⟩ (Jd T (zU x_w) q1)
 ·cases h
end Go.Te

namespace Go.Te
open Go Go.Sx Go.Proofs Go.Ar
set_option maxRecDepth 100000
set_option maxHeartbeats 4000000
abbrev xS : List Tm := [⟨1, 2⟩]
abbrev xU : zj := [49, 47, 49, 48]
abbrev xA : List Tm := [⟨10, 2⟩]
abbrev xB : List Tm := [⟨1 / 2, 1⟩, ⟨10, 2⟩]
theorem Qs : zP xU = 1 / 10 := by decide +kernel
theorem QG : YA (Zq (1 / (1 / 10)) xS) = xA := by decide +kernel
theorem EM : YA (xA ++ [⟨1 / 2, 1⟩]) = xB := by decide +kernel
theorem GG : KB xS xU := by
 refine ⟨vg (by decide +kernel), ⟨by decide +kernel, yn (by decide +kernel)⟩, by rw [Qs]; decide +kernel, ?_⟩
 rw [Qs]
 exact ⟨vg (by decide +kernel), xu (yn (by decide +kernel)) (by decide) (by decide), by rw [zn]; exact W3 (by decide +kernel) (by decide +kernel)⟩
theorem mi : lu xA 0 ∧ wq xA (Wu 0) = ⟨14, 15⟩ := by
 obtain ⟨a, b⟩ := lF (s := xA) (p := 0) (by decide +kernel)
 exact ⟨a, by rw [← b]; decide +kernel⟩
theorem H2 : lu xB 0 ∧ wq xB (Wu 0) = ⟨14, 15⟩ := by
 obtain ⟨a, b⟩ := lF (s := xB) (p := 0) (by decide +kernel)
 exact ⟨a, by rw [← b]; decide +kernel⟩
theorem Fy : GT xS xU := by
 refine ⟨GG, ?_, ?_, ?_⟩
 all_goals rw [Qs, QG]
 ·exact mi.1
 ·rw [mi.2]; exact yn (by decide +kernel)
 ·rw [mi.2]; exact yn (by decide +kernel)
theorem I0 : gJ xS (1 / 10) = xB := by unfold gJ; rw [QG]; exact EM
theorem eT : eR xS xU := by
 refine ⟨GG, ?_, vg (by decide +kernel), ?_, ?_, ?_⟩
 all_goals rw [Qs]
 ·rw [QG]; exact vg (by decide +kernel)
 ·rw [QG]; exact W3 (by decide +kernel) (by decide +kernel)
 ·rw [I0]; exact H2.1
 ·rw [I0, H2.2]; exact yn (by decide +kernel)
def tv (L : List Tm) (u : zj) (r : AV) : List AV → Option (List zN × AV)
 | [x, .str s] => some ([.b (ze Tm x && decide (Zn (α := Tm) x = L)), .b (s == u)], r)
 | _ => none
theorem Pl {G : List (Nat × Obj)} {f : FuncId} {L : List Tm} {u : zj} {r : AV} (h : zv Tryz.prog G f [Zl L, .str u] r) : zQ Tryz.prog G f (tv L u r) := by
 intro xs ps r' e hp
 unfold tv at e
 split at e
 ·rename_i x s
  cases e
  have q0 : (ze Tm x && decide (Zn (α := Tm) x = L)) = true := hp _ List.mem_cons_self
  have q1 : (s == u) = true := hp _ (List.mem_cons_of_mem _ List.mem_cons_self)
  rw [Bool.and_eq_true, decide_eq_true_iff] at q0
  obtain rfl := eq_of_beq q1
  exact weaken (ys := [_, _]) ⟨q0.2 ▸ zI q0.1, zV _, trivial⟩ h
 ·cases e
def PP (n : Int) (L : List Int) (r : AV) : List AV → Option (List zN × AV)
 | [.v (.int .i64 m), x] => some ([.b (m == n), .b (ze Int x && decide (Zn (α := Int) x = L))], r)
 | _ => none
theorem Iy {G : List (Nat × Obj)} {f : FuncId} {n : Int} {L : List Int} {r : AV} (h : zv Tryz.prog G f [.i n, Zl L] r) : zQ Tryz.prog G f (PP n L r) := by
 intro xs ps r' e hp
 unfold PP at e
 split at e
 ·rename_i m x
  cases e
  have q0 : (m == n) = true := hp _ List.mem_cons_self
  have q1 : (ze Int x && decide (Zn (α := Int) x = L)) = true := hp _ (List.mem_cons_of_mem _ List.mem_cons_self)
  rw [Bool.and_eq_true, decide_eq_true_iff] at q1
  obtain rfl := eq_of_beq q0
  exact weaken (ys := [_, _]) ⟨zV _, q1.2 ▸ zI q1.1, trivial⟩ h
 ·cases e
def nN (s : zj) : AV := .tup 2 (zw [.str s, .i 0])
theorem FC {G : List (Nat × Obj)} (hG : xx G) : zv Tryz.prog G 50 [Zl xS, .str xU] (nN [55, 47, 53]) := by
 have h := GE hG xS xU Fy
 rw [Qs, QG, mi.2, show zu (14 * (1 / 10)) = [55, 47, 53] by decide +kernel] at h
 exact h
theorem ew {G : List (Nat × Obj)} (hG : xx G) : zv Tryz.prog G 51 [Zl xS, .str xU] (nN [51, 47, 50]) := by
 have h := Gj hG xS xU Fy
 rw [Qs, QG, mi.2, show zu (15 * (1 / 10)) = [51, 47, 50] by decide +kernel] at h
 exact h
theorem FH {G : List (Nat × Obj)} (hG : xx G) : zv Tryz.prog G 52 [Zl xS, .str xU] (nN [55, 47, 53]) := by
 have h := G7 hG xS xU eT
 rw [Qs, I0, H2.2, show zu (14 * (1 / 10)) = [55, 47, 53] by decide +kernel] at h
 exact h
theorem FJ {G : List (Nat × Obj)} : zv Tryz.prog G 22 [.i 10, Zl ([1, 1, 1] : List Int)] (.tup 2 (zw [Zl ([4, 3, 3] : List Int), .i 0])) := by
 have h := Jd 10 [1, 1, 1] ⟨by decide, by decide, by decide⟩
 rw [show WK 10 [1, 1, 1] = [4, 3, 3] by decide +kernel, show Xg [1, 1, 1] = 0 by decide +kernel] at h
 exact zv.mono h
noncomputable def En (G : List (Nat × Obj)) : Tb := (((((Xz G).plus 50 (tv xS xU (nN [55, 47, 53]))).plus 51 (tv xS xU (nN [51, 47, 50]))).plus 52 (tv xS xU (nN [55, 47, 53]))).plus 22 (PP 10 [1, 1, 1] (.tup 2 (zw [Zl ([4, 3, 3] : List Int), .i 0])))).body Tryz.prog [(53, .auto)]
theorem OE {G : List (Nat × Obj)} (hG : xx G) : zz Tryz.prog (En G) := zz.body mixed (zz.plus (zz.plus (zz.plus (zz.plus zr (Pl (FC hG))) (Pl (ew hG))) (Pl (FH hG))) (Iy FJ)) _
def rO : List AV → Option (List zN × AV)
 | [] => some ([], .b true)
 | _ => none
theorem Lw (G : List (Nat × Obj)) :
 zB [] → (bif bif bif bif bif bif bif iZ == iZ then iZ == iZ else false then iZ == iZ else false then iZ == iZ else false then [(55 : UInt8), (47 : UInt8), (53 : UInt8)] == bA #[(55 : UInt8), (47 : UInt8), (53 : UInt8)] else false then [(51 : UInt8), (47 : UInt8), (50 : UInt8)] == bA #[(51 : UInt8), (47 : UInt8), (50 : UInt8)] else false then [(55 : UInt8), (47 : UInt8), (53 : UInt8)] == bA #[(55 : UInt8), (47 :
 UInt8), (53 : UInt8)] else false then true else false) = true := by
 delta bA iZ
 intro hb
 simp only [↓Zf, ↓Zu, row_one]
 simp only [sS, Z2, ZL, zn, ZQ, YU, yx, Yn, yp, YH, ym, qb, UK, dS]
 rfl
theorem Ku {G : List (Nat × Obj)} (hG : xx G)  : zv Tryz.prog G 21 [] (.b true) :=
 zW (T := En G) (an := .auto) mixed (OE hG) (Eq.mp (by kernel_rfl) (Lw G ))
theorem Jq {G : List (Nat × Obj)} (hG : xx G) : zQ Tryz.prog G 21 rO := by
 intro xs ps r h hp
 unfold rO at h
 split at h
 ·skip
  cases h
  exact weaken (ys := []) trivial (Ku hG )
 ·cases h
end Go.Te

namespace Go.Te
open Go Go.Sx Go.Proofs Go.Ar
set_option maxRecDepth 100000
set_option maxHeartbeats 4000000
structure Wt where
 x : Int
def LX : AV → Bool
 | .v (.int .u16 _) => true
 | _ => false
def Jj : AV → Int
 | .v (.int .u16 x) => x
 | _ => 0
theorem nl {x : AV} (h : LX x = true) : zi x (.v (.int .u16 (Jj x))) := by
 unfold LX at h
 split at h
 ·exact zV _
 ·cases h
instance : zR Wt := ⟨1, ⟨0⟩, fun u => zw [.v (.int .u16 u.x)], fun cs => ⟨Jj (cs 0)⟩, fun cs => LX (cs 0), fun cs h j hj => by
 obtain rfl : j = 0 := by omega
 exact nl h⟩
instance : YR Wt := ⟨fun c => rfl, fun c => rfl⟩
theorem fz (l : List Wt) : Zn (α := Wt) (AV.xl false 1 l.length fun i j => zw [AV.v (Value.int .u16 (l.getD i zR.dflt).x)] j) = l := wH l
theorem iI (l : List Wt) : ze Wt (AV.xl false 1 l.length fun i j => zw [AV.v (Value.int .u16 (l.getD i zR.dflt).x)] j) = true := Xj l
def Y9 (l : List Wt) : List Int := l.map fun u => u.x % 1001
structure G0 (T : Int) (l : List Wt) : Prop where
 tot : 0 ≤ T ∧ T ≤ 65535
 wts : ∀ u ∈ l, 0 ≤ u.x ∧ u.x ≤ 65535
theorem UT : ∀ {w : List Int} {B : Int}, (∀ x ∈ w, 0 ≤ x ∧ x ≤ B) → 0 ≤ ZA w ∧ ZA w ≤ w.length * B
 | [], B, _ => by unfold ZA; simp
 | x :: w, B, h => by
  obtain ⟨a, b⟩ := UT (w := w) (B := B) fun y hy => h y (List.mem_cons_of_mem _ hy)
  obtain ⟨c, d⟩ := h x List.mem_cons_self
  have e : ZA (x :: w) = x + ZA w := by unfold ZA; rw [List.sum_cons]
  have e2 : (((x :: w).length : Nat) : Int) * B = (w.length : Int) * B + B := by rw [List.length_cons, Int.natCast_add, Int.add_mul]; simp
  rw [e, e2]
  omega
theorem Ss {w : List Int} {z : Nat} (h : z < w.length) : ZA (w.take (z + 1)) = ZA (w.take z) + w.getD z 0 := by
 unfold ZA
 rw [List.take_succ_eq_append_getElem h, List.sum_append, List.getD_eq_getElem?_getD, List.getElem?_eq_getElem h]
 simp
theorem sQ : ∀ l : List Nat, ZA (vC l) = (l.sum : Nat)
 | [] => rfl
 | x :: l => by
  have := sQ l
  unfold ZA vC at *
  rw [List.map_cons, List.sum_cons, List.sum_cons, this]
  omega
def IG (T : Int) (l : List Wt) : yV :=
 .two .auto (.two .auto (.two .auto (.two .auto (.two (.two .auto (.one (.loop Nat (fun σ z => [(5, σ.tm 5), (25, σ.tm 25), (26, σ.tm 26), (6, .i (ZA ((Y9 l).take z))), (7, .ns σ.nb 0 z), (27, .i (z : Int))]) (fun σ z => [(σ.nb, u6 ((Y9 l).take z))]) 1 (fun σ z => z ≤ l.length) (fun σ z => l.length - z) .auto))) (.two .auto (.two .auto (.two .auto (.two .auto (.two (.two .auto (.one (.loop Nat (fun σ z => [(5, σ.tm 5), (6, σ.tm 6), (7, σ.tm 7), (10, σ.tm 10), (70, σ.tm 70), (71, σ.tm 71), (12, .i (ZA ((WK (T % 1001) (Y9 l)).take z))), (72, .i (z : Int))]) (fun σ z => []) 0 (fun σ z => z ≤ l.length) (fun σ z => l.length - z) (.two .auto (.two .auto (.two (.one (.two .auto (.two .auto (.two .auto (.two .auto (.one (.loop Nat (fun σ z => [(5, σ.tm 5), (6, σ.tm 6), (7, σ.tm 7), (10, σ.tm 10), (12, σ.tm 12), (13, σ.tm 13), (14, σ.tm 14), (70, σ.tm 70), (71, σ.tm 71), (72, σ.tm 72), (99, σ.tm 99), (100, σ.tm 100), (101, .i (z : Int))]) (fun σ z => []) 0 (fun σ z => z ≤ l.length) (fun σ z => l.length - z) .auto))))))) .auto)))))) .auto)))))))))
noncomputable def ET (G : List (Nat × Obj)) : Tb := ((Xz G).plus 22 mS).plus 21 rO
theorem Om {G : List (Nat × Obj)} (hG : xx G) : zz Tryz.prog (ET G) := zz.plus (zz.plus zr (zQ.mono G6)) (Jq hG)
theorem iV (G : List (Nat × Obj)) (T : Int) (l : List Wt) (h : G0 T l) :
 let q1 := (kI ∧ Int.tmod T (1001 : Int) = Int.tmod T (1001 : Int)); let q2 := (AV.xl false 1 (lN l) fun i j => zR.enc (gD l i zR.dflt) j); let q3 := (kI ∧ (lZ l) = (lZ l)); zB [AV.v (Value.int IntKind.u16 T), AV.xl false 1 (lN l) fun i j => zR.enc (gD l i zR.dflt) j] → zZ (zM (10 : Int) (lZ l)) (true = true) (bF (dK T) ((∃ (z : Nat), (z ≤ lN l ∧ q1 ∧ zi q2 q2 ∧ q3 ∧ (kI ∧ iZ = ZA (List.take z (Y9 l))) ∧ (some (Xd
 Nat) = some (Xd Nat) ∧ 0 = 0 ∧ z = 0) ∧ kI ∧ iZ = (cI z)) ∧ lN (List.take z (Y9 l)) = 0) ∧ ∀ (z : Nat), let q5 := (Wt.x (gD l (Int.toNat (cI z)) zR.dflt)); let q4 := (dK q5); let q6 := (AV.xl false 1 z fun i j => aI (gD (List.take z (Y9 l)) (0 + i) iZ)); let q7 := (zU q6); let q9 := (Xg q7 == (12 : Int)); let q8 := (!zS true q9 || zS true q9); let q12 := (WK (Int.tmod T (1001 : Int)) q7); let q11 := (lN q12); let q10 := (cI q11); let q14 := (Xg q7 != iZ); let q13
 := (!zS false q14 || zS false q14); let q15 := (kI ∧ ZA (List.take z (Y9 l)) = ZA (List.take z (Y9 l))); let q16 := (AV.xl false 1 q11 fun i j => aI (gD q12 i zR.dflt)); let q17 := (kI ∧ q10 = q10); z ≤ lN l → zZ (zM (cI z) (lZ l)) (bF (DB.db (iZ ≤ (cI z) ∧ (cI z) < (lZ l))) (bF q4 (bF (DB.db ((z + 1) * 8 ≤ 140737488355328)) (bF q4 (bF (dK (ZA (List.take z (Y9 l)) + Int.tmod q5 (1001 : Int))) (bF (dK ((↑z
 : Int) + iO)) (∃ (z' : Nat), ((z' ≤ lN l ∧ lN l - z' < lN l - z) ∧ q1 ∧ zi q2 q2 ∧ q3 ∧ (kI ∧ ZA (List.take z (Y9 l)) + Int.tmod q5 (1001 : Int) = ZA (List.take z' (Y9 l))) ∧ (nat_lit 0 = 0 ∧ 0 = 0 ∧ z' = z + 1) ∧ kI ∧ (cI z) + iO = (cI z')) ∧ (3 : TypeId) = 3 ∧ 1 = 1 ∧ lN (List.take z' (Y9 l)) = z + 1 ∧ ∀ (i j : Nat), i < z + 1 → j < 1 → zi (if i < z then aI (gD (List.take z (Y9 l)) i iZ) else Sx.rowAt [fun (x : Nat) => aI (Int.tmod q5 (1001 :
 Int))] (i - z) j) (aI (gD (List.take z' (Y9 l)) i iZ))))))))) (bF (ze Int q6) (Nl (Int.tmod T (1001 : Int)) q7 ∧ zZ (ZA (List.take z (Y9 l)) == iZ) (bF q8 (bF q8 (bF (!Xg q7 == (12 : Int) || zS true q9) (bF ((!bif Xg q7 == (12 : Int) then q10 == iZ else false) || zS true (bif Xg q7 == (12 : Int) then q10 == iZ else false)) ((bif bif Xg q7 == (12 : Int) then q10 == iZ else false then true else false) = true))))) (bF q13 (zZ
 q13 (bF q13 (bF q13 (bF (!!Xg q7 != iZ || zS false q14) (zZ (bif Xg q7 != iZ then true else q10 != (cI z)) (false = true) ((∃ (z_1 : Nat), (z_1 ≤ lN l ∧ q1 ∧ q15 ∧ zi q6 q6 ∧ zi q16 q16 ∧ zi q16 q16 ∧ q17 ∧ (kI ∧ iZ = ZA (List.take z_1 (WK (T % (1001 : Int)) (Y9 l)))) ∧ kI ∧ iZ = (cI z_1)) ∧ True) ∧ ∀ (z_1 : Nat), let q18 := (List.take z_1 (WK (T % (1001 : Int)) (Y9 l))); let q20 := (iZ ≤ (cI z_1) ∧ (cI z_1) < (cI z)); let q19 := (DB.db q20); let q21 := (gD q12
 (Int.toNat (cI z_1)) zR.dflt * ZA (List.take z (Y9 l)) - Int.tmod T (1001 : Int) * gD (List.take z (Y9 l)) (0 + Int.toNat (cI z_1)) iZ); let q23 := (leB q21 (-ZA (List.take z (Y9 l)))); let q22 := (!zS false q23 || zS false q23); let q24 := (kI ∧ ZA q18 + gD q12 (Int.toNat (cI z_1)) zR.dflt = ZA q18 + gD q12 (Int.toNat (cI z_1)) zR.dflt); let q25 := (kI ∧ (cI z_1) = (cI z_1)); let q26 := (kI ∧ gD q12 (Int.toNat (cI z_1)) zR.dflt = gD q12 (Int.toNat (↑z_1 :
 Int)) zR.dflt); let q31 := (gD (List.take z (Y9 l)) (0 + Int.toNat (cI z_1)) iZ); let q34 := (gD q12 (Int.toNat (cI z_1)) zR.dflt); z_1 ≤ lN l → zZ (zM (cI z_1) q10) (bF (DB.db (iZ ≤ (cI z_1) ∧ (cI z_1) < q10)) (bF (dK (ZA q18 + gD q12 (Int.toNat (cI z_1)) zR.dflt)) (bF (dK (gD q12 (Int.toNat (cI z_1)) zR.dflt * ZA (List.take z (Y9 l)))) (bF q19 (bF (dK (Int.tmod T (1001 : Int) * gD (List.take z (Y9 l)) (0 + Int.toNat (cI z_1)) (0
 : Int))) (bF (dK q21) (bF (dK (-ZA (List.take z (Y9 l)))) (bF q22 (bF q22 (bF (!!leB q21 (-ZA (List.take z (Y9 l))) || zS false q23) (zZ (bif leB q21 (-ZA (List.take z (Y9 l))) then true else leB (ZA (List.take z (Y9 l))) q21) (false = true) ((∃ (z_2 : Nat), (z_2 ≤ lN l ∧ q1 ∧ q15 ∧ zi q6 q6 ∧ zi q16 q16 ∧ q24 ∧ q25 ∧ q26 ∧ zi q16 q16 ∧ q17 ∧ q25 ∧ zi q16 q16 ∧ q17 ∧ kI ∧ iZ = (cI z_2)) ∧ True) ∧ ∀ (z_2 : Nat), let q27 := (iZ ≤ (cI z_2) ∧ (cI z_2) < (cI z)); let q30 :=
 (gD (List.take z (Y9 l)) (0 + Int.toNat (cI z_2)) iZ); let q29 := (zM q30 q31); let q28 := (!zS true q29 || zS true q29); let q35 := (gD q12 (Int.toNat (cI z_2)) zR.dflt); let q33 := (bif zM q30 q31 then zM q34 q35 else false); let q32 := (!zS false q33 || zS false q33); let q37 := (gD (List.take z (Y9 l)) (0 + Int.toNat (cI z_1)) iZ == gD (List.take z (Y9 l)) (0 + Int.toNat (cI z_2)) iZ); let q36 := (!(zS false q33 && zS true q37) || zS false q33 && zS true q37); let q39 := (bif gD (List.take z (Y9
 l)) (0 + Int.toNat (cI z_1)) iZ == gD (List.take z (Y9 l)) (0 + Int.toNat (cI z_2)) iZ then zM (cI z_1) (cI z_2) else false); let q38 := (!(zS false q33 && zS true q39) || zS false q33 && zS true q39); z_2 ≤ lN l → zZ (zM (cI z_2) q10) (bF (DB.db (iZ ≤ (cI z_2) ∧ (cI z_2) < q10)) (bF q19 (bF (DB.db q27) (bF q28 (bF q28 (bF (!zM q30 q31 || zS true q29) (bF q32 (bF q32 (bF (!zS false q33 || DB.db q20) (bF q32 (bF q32 (bF q32 (zZ (!zS false q33 || DB.db q27)
 (bF q32 (bF q32 (bF q32 (bF q32 (bF q36 (bF q36 (bF q32 (bF (!zS false q33 || (!gD (List.take z (Y9 l)) (0 + Int.toNat (cI z_1)) iZ == gD (List.take z (Y9 l)) (0 + Int.toNat (cI z_2)) iZ || zS false q33 && zS true q37)) (bF q32 (bF q38 (bF q38 (bF q32 (bF (!zS false q33 || ((!bif gD (List.take z (Y9 l)) (0 + Int.toNat (cI z_1)) iZ == gD (List.take z (Y9 l)) (0 + Int.toNat (cI z_2)) iZ then zM (cI z_1) (cI z_2) else false) || zS false q33 && zS true
 q39)) (bF ((!!bif zM q30 q31 then zM q34 q35 else false) || zS false q33) (zZ (bif bif zM q30 q31 then zM q34 q35 else false then true else bif bif gD (List.take z (Y9 l)) (0 + Int.toNat (cI z_1)) iZ == gD (List.take z (Y9 l)) (0 + Int.toNat (cI z_2)) iZ then zM (cI z_1) (cI z_2) else false then zM q34 q35 else false) (false = true) (bF (dK ((cI z_2) + iO)) (∃ (z' : Nat), ((z' ≤ lN l ∧ lN l - z' < lN l - z_2) ∧ q1 ∧ q15 ∧ zi q6 q6 ∧ zi q16 q16 ∧ q24 ∧ q25 ∧ q26 ∧ zi q16 q16 ∧
 q17 ∧ q25 ∧ zi q16 q16 ∧ q17 ∧ kI ∧ (cI z_2) + iO = (cI z')) ∧ True))))))))))))))))) False))))))))))))) (bF (dK ((cI z_1) + iO)) (∃ (z' : Nat), ((z' ≤ lN l ∧ lN l - z' < lN l - z_1) ∧ q1 ∧ q15 ∧ zi q6 q6 ∧ zi q16 q16 ∧ zi q16 q16 ∧ q17 ∧ (kI ∧ ZA q18 + gD q12 (Int.toNat (cI z_1)) zR.dflt = ZA (List.take z' (WK (T
 % (1001 : Int)) (Y9 l)))) ∧ kI ∧ (cI z_1) + iO = (cI z')) ∧ True)))))))))))))) (bF (!ZA q18 == Int.tmod T (1001 : Int) || zS true (ZA q18 == Int.tmod T (1001 : Int))) ((bif ZA q18 == Int.tmod T (1001 : Int) then true else false) = true))))))) False)))))) := by
 delta bF dK cI kI lZ lN gD iZ iO aI
 dsimp only
 intro hb
 simp only [↓Zf, ↓Zu, row_one]
 simp only [sS, qb, UK, fz, iI, dS]
 have hT := h.tot
 have en : T.tmod 1001 = T % 1001 := Int.tmod_eq_emod_of_nonneg hT.1
 have hLl : (Y9 l).length = l.length := by unfold Y9; rw [List.length_map]
 have hat : ∀ z, z < l.length → 0 ≤ (l.getD z zR.dflt).x ∧ (l.getD z zR.dflt).x ≤ 65535 ∧ (l.getD z zR.dflt).x.tmod 1001 = (Y9 l).getD z 0 := fun z hz => by
  have hm : l.getD z zR.dflt ∈ l := by
   rw [List.getD_eq_getElem?_getD, List.getElem?_eq_getElem hz]
   exact List.getElem_mem hz
  have h1 := h.wts _ hm
  refine ⟨h1.1, h1.2, ?_⟩
  rw [Int.tmod_eq_emod_of_nonneg h1.1]
  unfold Y9
  rw [List.getD_eq_getElem?_getD, List.getD_eq_getElem?_getD, List.getElem?_map, List.getElem?_eq_getElem hz]
  rfl
 have hw : ∀ x ∈ Y9 l, 0 ≤ x ∧ x ≤ 1000 := fun x hx => by
  unfold Y9 at hx
  obtain ⟨u, hu, rfl⟩ := List.mem_map.1 hx
  omega
 rw [en]
 refine ⟨fun _ => trivial, fun hl => ⟨by simp only [ZB]; omega, ⟨0, ⟨Nat.zero_le _, rfl, rfl, rfl⟩, rfl⟩, fun z hz => ⟨fun hlt => ?_, fun hge => ?_⟩⟩⟩
 ·have hzl : z < l.length := by omega
  obtain ⟨a1, a2, a3⟩ := hat z hzl
  have st := Ss (w := Y9 l) (z := z) (by omega)
  have b := UT (w := (Y9 l).take z) (B := 1000) fun x hx => hw x (List.mem_of_mem_take hx)
  have bl : ((Y9 l).take z).length ≤ 10 := by rw [List.length_take]; omega
  have tl : ((Y9 l).take z).length = z := by rw [List.length_take]; omega
  rw [a3]
  have ax : 0 ≤ (Y9 l).getD z 0 ∧ (Y9 l).getD z 0 ≤ 1000 := by rw [← a3, Int.tmod_eq_emod_of_nonneg a1]; omega
  refine ⟨⟨by omega, hlt⟩, by simp only [ZB]; omega, by omega, by simp only [ZB]; omega, by simp only [ZB]; omega, by simp only [ZB]; omega, z + 1, ⟨⟨by omega, by omega⟩, st.symm, rfl, by omega⟩, by rw [List.length_take]; omega, fun i j hi hj => ?_⟩
  have e : (Y9 l).take (z + 1) = (Y9 l).take z ++ [(Y9 l).getD z 0] := by
   rw [List.take_succ_eq_append_getElem (by omega), List.getD_eq_getElem?_getD, List.getElem?_eq_getElem (by omega)]; rfl
  rw [e]
  have := SP ((Y9 l).take z) ((Y9 l).getD z 0) i j (by rw [tl]; exact hi) hj
  rwa [tl] at this
 obtain rfl : z = (Y9 l).length := by omega
 rw [← hLl] at *
 have hC : Nl (T % 1001) (Y9 l) := ⟨by omega, hw, by omega⟩
 generalize Y9 l = L at *
 have e1 : zU (AV.xl false 1 L.length fun i j => AV.v (Value.int .i64 (L.getD i 0))) = L := wH L
 have e2 : ze Int (AV.xl false 1 L.length fun i j => AV.v (Value.int .i64 (L.getD i 0))) = true := Xj L
 rw [List.take_length, e1, e2]
 have e0 : (zR.dflt : Int) = 0 := rfl
 rw [e0]
 refine zY.2 ⟨fun _ => ⟨hC, fun hz0 => ?_, fun hz0 => ?_⟩, fun c => (by cases c)⟩
 ·have a : Xg L = 12 := by unfold Xg; rw [if_pos hz0]
  have b : WK (T % 1001) L = [] := by unfold WK; rw [if_pos hz0]
  rw [a, b]; rfl
 have hE : Xg L = 0 := by unfold Xg; rw [if_neg hz0]
 have hO : WK (T % 1001) L = vC (Yv (T % 1001).toNat (L.map Int.toNat)) := by unfold WK; rw [if_neg hz0]
 have hS : ZA L = ((L.map Int.toNat).sum : Nat) := tk fun x hx => (hw x hx).1
 have wn : ∀ i, L.getD i 0 = (((L.map Int.toNat).getD i 0 : Nat) : Int) := tU hC
 have hWl : (L.map Int.toNat).length = L.length := List.length_map _
 have hs0 : 0 < (L.map Int.toNat).sum := by omega
 have hSb := (UT (w := L) (B := 1000) hw).2
 have hN : ((T % 1001).toNat : Int) = T % 1001 := by omega
 have shl := px (T % 1001).toNat (L.map Int.toNat)
 have near := fun i (hi : i < L.length) => Pq (T := (T % 1001).toNat) hs0 (i := i) (by rw [hWl]; exact hi)
 have mono := fun i k (hi : i < L.length) (hk : k < L.length) => pz (T := (T % 1001).toNat) hs0 (i := i) (k := k) (by rw [hWl]; exact hi) (by rw [hWl]; exact hk)
 have ssum := nU (T := (T % 1001).toNat) hs0
 rw [hE, hO, hS, ← hN, Int.toNat_natCast]
 have sl : (vC (Yv (T % 1001).toNat (L.map Int.toNat))).length = L.length := by unfold vC; rw [List.length_map, shl, hWl]
 have si := sQ (Yv (T % 1001).toNat (L.map Int.toNat))
 have ia := P9 (Yv (T % 1001).toNat (L.map Int.toNat))
 rw [sl]
 generalize Yv (T % 1001).toNat (L.map Int.toNat) = s at *
 generalize L.map Int.toNat = W at *
 generalize hN' : (T % 1001).toNat = N at *
 have hNb : N ≤ 1000 := by omega
 have hSb2 : W.sum ≤ 10000 := by omega
 have wb : ∀ i, W.getD i 0 ≤ 1000 := fun i => by have := (SR hC i).2; rw [wn] at this; omega
 have pr : ∀ i, N * W.getD i 0 ≤ 1000 * 1000 := fun i => Nat.mul_le_mul hNb (wb i)
 have sb : ∀ i, i < L.length → s.getD i 0 ≤ 2000000 ∧ s.getD i 0 * W.sum ≤ 2000000 := fun i hi => by
  have a := (near i hi).1
  have b := pr i
  have c : s.getD i 0 * 1 ≤ s.getD i 0 * W.sum := Nat.mul_le_mul_left _ hs0
  omega
 refine zY.2 ⟨fun c => ?_, fun _ => ⟨⟨0, Nat.zero_le _, rfl, rfl⟩, fun i hi => ⟨fun hlt => ?_, fun hge => ?_⟩⟩⟩
 ·simp at c
 ·have hil : i < L.length := by omega
  have st := Ss (w := vC s) (z := i) (by rw [sl]; exact hil)
  have bd := UT (w := (vC s).take i) (B := 2000000) fun x hx => by
   obtain ⟨k, hk, rfl⟩ := List.getElem_of_mem (List.mem_of_mem_take hx)
   have hk' : k < L.length := by rw [← sl]; exact hk
   have : (vC s)[k] = (vC s).getD k 0 := by rw [List.getD_eq_getElem?_getD, List.getElem?_eq_getElem hk]; rfl
   rw [this, ia]
   have := (sb k hk').1
   omega
  have tl : ((vC s).take i).length ≤ 10 := by rw [List.length_take]; omega
  obtain ⟨n1, n2⟩ := near i hil
  obtain ⟨s1, s2⟩ := sb i hil
  have p1 := pr i
  rw [ia, wn i]
  rw [ia] at st
  have m1 : ((s.getD i 0 : Nat) : Int) * ((W.sum : Nat) : Int) = ((s.getD i 0 * W.sum : Nat) : Int) := (Int.natCast_mul _ _).symm
  have m2 : (N : Int) * ((W.getD i 0 : Nat) : Int) = ((N * W.getD i 0 : Nat) : Int) := (Int.natCast_mul _ _).symm
  rw [m1, m2]
  refine ⟨⟨by omega, hlt⟩, by simp only [ZB]; omega, by simp only [ZB]; omega, ⟨by omega, hlt⟩, by simp only [ZB]; omega, by simp only [ZB]; omega, by simp only [ZB]; omega, zY.2 ⟨fun c => ?_, fun _ => ⟨⟨0, Nat.zero_le _, rfl⟩, fun k hk => ⟨fun klt => ?_, fun kge => ?_⟩⟩⟩⟩
  ·rw [Bool.or_eq_true, z8, z8] at c
   omega
  ·have hkl : k < L.length := by omega
   have mo := mono i k hil hkl
   rw [ia, wn k]
   have t1 : ∀ A B : Bool, (!!A || (!B || !A && B)) = true := by decide
   rw [t1, t1]
   refine ⟨⟨by omega, klt⟩, ⟨by omega, by omega⟩, ⟨by omega, by omega⟩, fun _ => ⟨by omega, by omega⟩, fun _ => ⟨by omega, by omega⟩, zY.2 ⟨fun _ => zY.2 ⟨fun _ => zY.2 ⟨fun c => ?_, fun _ => ⟨by simp only [ZB]; omega, k + 1, ⟨by omega, by omega⟩, by omega⟩⟩, fun c => (by cases c)⟩, fun c => (by cases c)⟩⟩
   exfalso
   simp only [Bool.or_eq_true, Bool.and_eq_true, zq, beq_iff_eq] at c
   have := mo (by omega)
   omega
  ·exact ⟨by simp only [ZB]; omega, i + 1, ⟨by omega, by omega⟩, st.symm, by omega⟩
 ·obtain rfl : i = L.length := by omega
  rw [← sl, List.take_length, si, ssum, beq_self_eq_true]; rfl
theorem gH {G : List (Nat × Obj)} (hG : xx G) (T : Int) (l : List Wt) (h : G0 T l) : zv Tryz.prog G 5 [.v (.int .u16 T), Zl l] (.b true) :=
 zW (T := ET G) (an := IG T l) mixed (Om hG) (Eq.mp (by kernel_rfl) (iV G T l h))
end Go.Te

namespace Go.Te
open Go Go.Sx Go.Proofs Go.Ar Go.RowKit
set_option maxRecDepth 100000
def oR : List (List UInt8) := [[50], [51], [53], [55], [49, 49], [49, 51], [49, 55], [49, 57], [50, 51], [50, 57], [51, 49], [51, 55], [52, 49], [52, 51], [52, 55], [53, 51], [53, 57], [54, 49], [54, 55], [55, 49], [55, 51], [55, 57], [56, 51], [56, 57], [57, 55]]
theorem Ph : (oR.map fun z => Value.string ⟨z.toArray⟩) = zK.toList := by kernel_rfl
theorem TG {H : Type} {enc : TypeId × Value → H} {P : Program} {w : World} {base : Nat} {sp : Nat → Bool} {held : Bool} {fuel : Nat} {t e : TypeId} {n : Nat} {cs : List Value} {zs : List (List UInt8)} {p : List MemPlace}
  (ht : P.underlying t = some (.array n e)) (he : P.underlying e = some .string) (hce : P.cellsOf e = 1) (hct : P.cellsOf t = n)
  (h : DataW.trod enc P w base sp held fuel t cs = some (.agg (zs.map fun z => .lit (.string z)), p)) : cs = zs.map fun z => Value.string ⟨z.toArray⟩ := by
 cases fuel with
 | zero => simp [DataW.trod] at h
 | succ fuel =>
  simp only [DataW.trod, ht, hce, hct, Nat.mul_one] at h
  split at h
  ·rename_i hl
   obtain ⟨xs, hm, hx⟩ := Option.map_eq_some_iff.1 h
   have hxs : xs.map (·.1) = zs.map fun z => (DataW.lit (.string z) : DataW H) := by
    have := congrArg Prod.fst hx
    simpa using this
   have hxl : xs.length = n := by simpa using Lib.mapM_length hm
   have hzl : zs.length = n := by
    have := congrArg List.length hxs
    simp at this
    omega
   apply List.ext_getElem?
   intro i
   by_cases hi : i < n
   ·obtain ⟨b, hb, hf⟩ := Lib.mapM_at hm i i (by simp [hi])
    obtain ⟨z, hc, rfl, _⟩ := DataW.trod_string he hf
    have h1 : cs[i]? = some (.string z) := by
     have := congrArg (·[0]?) hc
     simpa [List.getElem?_take, List.getElem?_drop] using this
    have h2 : (xs.map (·.1))[i]? = some (DataW.lit (.string z.data.toList) : DataW H) := by simp [hb]
    rw [hxs] at h2
    simp only [List.getElem?_map, Option.map_eq_some_iff, DataW.lit.injEq, Lit.string.injEq] at h2
    obtain ⟨z', hz', rfl⟩ := h2
    simp [h1, hz']
   ·rw [List.getElem?_eq_none (by omega), List.getElem?_eq_none (by simp; omega)]
  ·cases h
section
variable {H : Type} {enc : TypeId × Value → H} {W : World} {spare : Nat → Bool} {held : Bool}
theorem Ms {base n : Nat} {A : Addr} {cs : List Value} (h : W.cells? base A n = some cs) : cs.length = n ∧ ∀ i, i < n → W.cell? (A.add i) = some (cs.getD i undef) := by
 unfold World.cells? at h
 split at h
 ·refine ⟨by simpa using Lib.mapM_length h, fun i hi => ?_⟩
  obtain ⟨b, hb, hf⟩ := Lib.mapM_at h i i (by simp [hi])
  rw [hf, List.getD_eq_getElem?_getD, hb, Option.getD_some]
 ·cases h
theorem kq {A : Addr} {v : Value} (h : W.cell? A = some v) : A.block < W.heap.size := by
 rcases Nat.lt_or_ge A.block W.heap.size with h' | h'
 ·exact h'
 ·simp [World.cell?, Array.getElem?_eq_none h'] at h
abbrev HN (W : World) : Nat → Prop := fun b => b < W.heap.size
def Mp {α : Type} [zR α] (W : World) (a : α) (cs : List Value) : Prop :=
 ∀ j, j < zR.n α → zE W (HN W) yN (zR.enc a j) (cs.getD j undef) ∧ (cs.getD j undef).oneCell' = true
theorem Qh {α : Type} [zR α] {t e : TypeId} (hu : Tryz.prog.underlying t = some (.slice e)) (hn : Tryz.prog.cellsOf e = zR.n α) {Good : α → Prop} (hd : Good zR.dflt)
  (hel : ∀ {n : Nat} {cs : List Value} {x : DataW H × List MemPlace}, DataW.trod enc Tryz.prog W 0 spare held n e cs = some x → ∃ a : α, Mp W a cs ∧ Good a)
  {n : Nat} {cs : List Value} {x : DataW H × List MemPlace} (h : DataW.trod enc Tryz.prog W 0 spare held n t cs = some x) :
  ∃ (v : Value) (l : List α), cs = [v] ∧ v.oneCell' = true ∧ zE W (HN W) yN (Zl l) v ∧ ∀ j, Good (l.getD j zR.dflt) := by
 rcases DataW.trod_slice hu h with ⟨h1, _⟩ | ⟨a, len, cap, elems, rest, m, _, h1, _, _, h2, h3, h4, h5, _, _⟩
 ·exact ⟨_, [], h1, rfl, .xl none 0 (fun _ _ => undef) (Nat.le_refl _) (Nat.zero_le _) (fun _ => rfl) (fun i j hi => absurd hi (Nat.not_lt_zero _)) (fun i j hi => absurd hi (Nat.not_lt_zero _)), fun j => by simpa using hd⟩
 ·rw [hn] at h5
  have key : ∀ i, ∃ u : α, (i < len → ∀ j, j < zR.n α → ∃ c, W.cell? (a.add (i * zR.n α + j)) = some c ∧ zE W (HN W) yN (zR.enc u j) c ∧ c.oneCell' = true) ∧ Good u := fun i => by
   by_cases hi : i < len
   ·have := h5 i hi
    rw [List.getElem?_eq_getElem (by omega)] at this
    obtain ⟨cs', hc, hd'⟩ := Option.bind_eq_some_iff.1 this
    obtain ⟨u, h6, h7⟩ := hel hd'
    refine ⟨u, fun _ j hj => ⟨cs'.getD j undef, ?_, h6 j hj⟩, h7⟩
    have := (Ms hc).2 j hj
    rw [Xo] at this
    exact this
   ·exact ⟨zR.dflt, fun h => absurd h hi, hd⟩
  obtain ⟨f, hf⟩ : ∃ f : Nat → α, ∀ i, (i < len → ∀ j, j < zR.n α → ∃ c, W.cell? (a.add (i * zR.n α + j)) = some c ∧ zE W (HN W) yN (zR.enc (f i) j) c ∧ c.oneCell' = true) ∧ Good (f i) :=
   ⟨fun i => Classical.choose (key i), fun i => Classical.choose_spec (key i)⟩
  have hg : ∀ i, i < len → (w7 len f).getD i zR.dflt = f i := fun i hi => by simp [w7, List.getD_eq_getElem?_getD, hi]
  have hlen : (w7 len f).length = len := by simp [w7]
  refine ⟨_, w7 len f, h1, rfl, ?_, fun i => ?_⟩
  ·unfold Zl
   rw [hlen]
   refine .xl (some a) cap (fun i j => (W.cell? (a.add (i * zR.n α + j))).getD undef) h2 h3 (fun e => by cases e) (fun i j hi hj => ?_) (fun i j hi hj => ?_)
   ·obtain ⟨c, hc, _, ho⟩ := (hf i).1 hi j hj
    refine ⟨a, rfl, ?_, ?_, ?_⟩
    ·have := kq hc
     rw [yS] at this
     exact this
    ·show W.cell? (a.add (i * zR.n α + j)) = some _
     rw [hc]; rfl
    ·rw [hc]; exact ho
   ·obtain ⟨c, hc, hr, _⟩ := (hf i).1 hi j hj
    rw [hg i hi, hc]
    exact hr
  ·by_cases hi : i < len
   ·rw [hg i hi]; exact (hf i).2
   ·rw [List.getD_eq_getElem?_getD, List.getElem?_eq_none (by omega)]
    exact hd
theorem mj {α : Type} [zR α] {t e : TypeId} (hu : Tryz.prog.underlying t = some (.slice e)) (hn : Tryz.prog.cellsOf e = zR.n α) {Good : α → Prop} (hd : Good zR.dflt)
  (hel : ∀ {n : Nat} {cs : List Value} {x : DataW H × List MemPlace}, DataW.trod enc Tryz.prog W 0 spare held n e cs = some x → ∃ a : α, Mp W a cs ∧ Good a)
  {o : Option Addr} {n c : Nat} {d : DataW H} {ps : List MemPlace} (h : DataW.Trod enc Tryz.prog W 0 spare held t (.slice o n c) d ps) :
  ∃ l : List α, zE W (HN W) yN (Zl l) (.slice o n c) ∧ ∀ j, Good (l.getD j zR.dflt) := by
 obtain ⟨m, h⟩ := h
 have hcs : (Value.slice o n c).cells.toList = [.slice o n c] := rfl
 rw [hcs] at h
 obtain ⟨v, l, e1, _, e3, e4⟩ := Qh hu hn hd hel h
 obtain rfl : Value.slice o n c = v := by simpa using e1
 exact ⟨l, e3, e4⟩
theorem MS {n : Int} {d : DataW H} {ps : List MemPlace} (h : DataW.Trod enc Tryz.prog W 0 spare held 48 (.int .u16 n) d ps) : 0 ≤ n ∧ n ≤ 65535 := by
 obtain ⟨m, h⟩ := h
 obtain ⟨k, h1, _, h3⟩ := DataW.trod_int Tryz.underlying48 h
 have e : [Value.int .u16 n] = [.int .u16 k] := h1
 cases e
 simp only [Lit.wf, Bool.and_eq_true, decide_eq_true_eq] at h3
 have h4 : (0 : Int) ≤ n ∧ n ≤ 65535 := h3
 exact h4
theorem iC {m : Nat} {cs : List Value} {x : DataW H × List MemPlace} (h : DataW.trod enc Tryz.prog W 0 spare held m 48 cs = some x) : ∃ n, cs = [.int .u16 n] ∧ (0 ≤ n ∧ n ≤ 65535) := by
 obtain ⟨k, h1, _, h3⟩ := DataW.trod_int Tryz.underlying48 h
 simp only [Lit.wf, Bool.and_eq_true, decide_eq_true_eq] at h3
 have h4 : (0 : Int) ≤ k ∧ k ≤ 65535 := h3
 exact ⟨k, h1, h4⟩
end
end Go.Te

namespace Go.Te
open Go Go.Sx Go.Proofs Go.Ar Go.RowKit
set_option maxRecDepth 100000
theorem Lp : Tryz.prog.cellsOf 48 = 1 := by kernel_rfl
section
variable {H : Type} {enc : TypeId × Value → H} {W : World} {spare : Nat → Bool} {held : Bool}
theorem Kf {n : Nat} {cs : List Value} {x : DataW H × List MemPlace} (h : DataW.trod enc Tryz.prog W 0 spare held n 48 cs = some x) : ∃ g : Wt, Mp W g cs ∧ (0 ≤ g.x ∧ g.x ≤ 65535) := by
 obtain ⟨z, rfl, hz⟩ := iC h
 refine ⟨⟨z⟩, fun j hj => ?_, hz⟩
 obtain rfl : j = 0 := Nat.lt_one_iff.1 hj
 exact ⟨.v _, rfl⟩
theorem mr {o : Option Addr} {n c : Nat} {d : DataW H} {ps : List MemPlace} (h : DataW.Trod enc Tryz.prog W 0 spare held 49 (.slice o n c) d ps) :
  ∃ l : List Wt, zE W (HN W) yN (Zl l) (.slice o n c) ∧ ∀ u ∈ l, 0 ≤ u.x ∧ u.x ≤ 65535 := by
 obtain ⟨l, h1, h2⟩ := mj (α := Wt) (Good := fun u => 0 ≤ u.x ∧ u.x ≤ 65535) Tryz.underlying49 Lp (by decide) Kf h
 refine ⟨l, h1, fun u hu => ?_⟩
 obtain ⟨i, hi, rfl⟩ := List.getElem_of_mem hu
 have := h2 i
 rwa [List.getD_eq_getElem?_getD, List.getElem?_eq_getElem hi] at this
end
theorem mT {G : List (Nat × Obj)} (hG : xx G) (T : Int) (l : List Wt) (hT : 0 ≤ T ∧ T ≤ 65535) (hl : ∀ u ∈ l, 0 ≤ u.x ∧ u.x ≤ 65535) : zv Tryz.prog G 5 [.v (.int .u16 T), Zl l] (.b true) := gH hG T l ⟨hT, hl⟩
end Go.Te
