/- span.Least. -/
import Derived.Test.YtdkpceodckdcfaaGreatDoorTeGf
import Derived.Test.YtdkpceodckdcfaaGreatDoorArT
import Derived.Test.YtdkpceodckdcfaaGreatDoorSxSn
import Derived.Test.YtdkpceodckdcfaaGreatDoorTeGd
import Derived.Shelf.SlLaysF0
import Derived.Test.YtdkpceodckdcfaaGreatDoorProg
import Derived.Test.YtdkpceodckdcfaaGreatDoorSxSo
set_option linter.unusedSimpArgs false
set_option linter.unusedVariables false
namespace Go.Te
open Go Go.Sx Go.Proofs Go.Ar Go.RowKit
set_option maxRecDepth 100000
set_option maxHeartbeats 4000000
def je (r : Nat → AV) : Bool := zp.ok (α := Sz) r && O0 (zp.dec r)
def Ps (r s : Nat → AV) : Int := x9 (zp.dec r) (zp.dec s)
def N5 := rV 3 60 je Ps
def UI (l : List Row) (s q : Int) (a : zh) (x : Row) : Bool := Vb (Zl l x.w x.d s q) a
def RS (l : List Row) (s q : Int) (a : zh) (x : Row) : Int := Xj (Zl l x.w x.d s q) a
def wN (l : List Row) (s q : Int) (a : zh) : Int :=
 bif yr l 1 1 s q != 0 then yr l 1 1 s q else bif vw a != 0 then vw a
 else bif Ya (fun i => RS l s q a (l.getD i r0)) l.length 0 != 0 then Ya (fun i => RS l s q a (l.getD i r0)) l.length 0
 else bif Nat.beq (um (UI l s q a) l).length 0 then 25 else 0
def uA (l : List Row) (s q : Int) (a : zh) : Sz := bif wN l s q a == 0 then minS (um (UI l s q a) l) else s0
structure YF where
 i : Nat
 out : List Sz
def HK (l : List Sz) : OB := .arr 40 3 l.length fun i j => zp.enc (l.getD i zp.dflt) j
noncomputable def fO (G : List (Nat × Obj)) : Tb := { (((((wn G).plus 55 sH).plus 56 Pg).plus 58 XY).plus 57 Uu) with own := fun g => bif Nat.beq g 59 then some N5 else none }
theorem XE {l : List Row} {s q : Int} {a : zh} (h : wN l s q a ≠ 0) : uA l s q a = s0 := by unfold uA; rw [beq_false_of_ne h]; rfl
theorem NS {l : List Row} {s q : Int} {a : zh} (h : yr l 1 1 s q ≠ 0) : wN l s q a = yr l 1 1 s q := by unfold wN; rw [bne_iff_ne.2 h]; rfl
theorem mA {l : List Row} {s q : Int} {a : zh} (h : yr l 1 1 s q = 0) (h2 : vw a ≠ 0) : wN l s q a = vw a := by unfold wN; rw [h, bne_iff_ne.2 h2]; rfl
theorem lL {l : List Row} {s q : Int} {a : zh} (h : yr l 1 1 s q = 0) (h2 : vw a = 0) {i : Nat} (hi : i < l.length) (h3 : ∀ j, j < i → RS l s q a (l.getD j r0) = 0) (h4 : RS l s q a (l.getD i r0) ≠ 0) : wN l s q a = RS l s q a (l.getD i r0) := by
 unfold wN
 rw [h, h2, XX hi h3 h4, bne_iff_ne.2 h4]; rfl
theorem Mt {l : List Row} {s q : Int} {a : zh} (h : yr l 1 1 s q = 0) (h2 : vw a = 0) (h3 : ∀ j, j < l.length → RS l s q a (l.getD j r0) = 0) : wN l s q a = bif Nat.beq (um (UI l s q a) l).length 0 then 25 else 0 := by
 unfold wN
 rw [h, h2, xH h3]; rfl
theorem Xr {l : List Row} {w d s q : Int} (h : yr l w d s q = 0) : Y4 l = 0 ∧ ∀ x ∈ l, (1 ≤ x.w ∧ x.w ≤ 1000) ∧ (1 ≤ x.d ∧ x.d ≤ 1000) := by
 obtain ⟨ht, _⟩ := ws.1 h
 refine ⟨ht, fun x hx => ?_⟩
 obtain ⟨i, hi, rfl⟩ := List.getElem_of_mem hx
 obtain ⟨h1, _⟩ := rM ((VO ht).2 i hi)
 have e : l.getD i r0 = l[i] := by rw [List.getD_eq_getElem?_getD, List.getElem?_eq_getElem hi]; rfl
 rw [e] at h1
 unfold yc at h1
 simp only [Bool.and_eq_true, Z2] at h1
 exact h1.1
theorem Py {a : zh} (h : vw a = 0) : zo a = 0 := by
 refine Decidable.byContradiction fun e => ?_
 unfold vw at h
 rw [bne_iff_ne.2 e] at h
 exact e h
def H1 (l : List Row) (s q : Int) (a : zh) : yW :=
 .two .auto (.two .auto (.two .auto (.two .auto (.two (.two .auto (.one (.loop YF (fun σ z => [(0, σ.tm 0), (1, σ.tm 1), (2, σ.tm 2), (3, σ.tm 3), (8, σ.tm 8), (31, σ.tm 31), (32, σ.tm 32), (12, .ns σ.nb 0 z.out.length), (33, .i z.i)]) (fun σ z => [(σ.nb, HK z.out)]) 1 (fun σ z => z.i ≤ l.length ∧ z.out = um (UI l s q a) (l.take z.i) ∧ ∀ i, i < z.i → RS l s q a (l.getD i r0) = 0) (fun σ z => l.length - z.i) .auto))) .auto))))
theorem HM (G : List (Nat × Obj)) (l : List Row) (s q : Int) (a : zh) (hl : a.length ≤ 4294967280) :
 let q2 := (AV.xl false 5 (lN l) fun i j => zp.enc (gD l i zp.dflt) j); let q1 := (za Row q2); let q3 := (rowsOf q2); let q4 := (True ∧ 3 = 3 ∧ ((kI ∧ iZ = Sz.k (uA l s q a)) ∧ kI ∧ iZ = Sz.w (uA l s q a)) ∧ kI ∧ iZ = Sz.d (uA l s q a)); let q5 := (kI ∧ (lZ l) = (lZ l)); let q6 := (40 = 40 ∧ 3 = 3 ∧ ((kI ∧ iZ = iZ) ∧ kI ∧ iZ = iZ) ∧ kI ∧ iZ = iZ); zB [AV.xl false
 5 (lN l) fun i j => zp.enc (gD l i zp.dflt) j, aI s, aI q, AV.str a] → bF q1 (zZ (yr q3 iO iO s q != iZ) (j2 ∧ q4 ∧ kI ∧ yr q3 iO iO s q = wN l s q a) (lN a ≤ nM ∧ zZ (vw a != iZ) (j2 ∧ q4 ∧ kI ∧ vw a = wN l s q a) ((∃ (z : YF), ((YF.i z ≤ lN l ∧ YF.out z = um (UI l s q a) (List.take (YF.i z) l) ∧ ∀ (i : Nat), i < YF.i z → RS l s q a (gD l i
 r0) = iZ) ∧ zc q2 q2 ∧ (kI ∧ s = s) ∧ (kI ∧ q = q) ∧ a = a ∧ (nat_lit 0 = 0 ∧ 0 = 0) ∧ zc q2 q2 ∧ q5 ∧ (some (xf Nat) = some (xf Nat) ∧ 0 = 0 ∧ lN (YF.out z) = 0) ∧ kI ∧ iZ = (cI (YF.i z))) ∧ q6 ∧ lN (YF.out z) = 0) ∧ ∀ (z : YF), let q8 := (gD l (Int.toNat (cI (YF.i z))) zp.dflt); let q7 := (Row.w q8); let q9 := (Row.d q8); let q10 := (Zl q3 q7 q9 s q); let q11 := (dK ((cI (YF.i z)) + iO)); (YF.i z ≤ lN l ∧ YF.out z = um (UI l s q a) (List.take
 (YF.i z) l) ∧ ∀ (i : Nat), i < YF.i z → RS l s q a (gD l i r0) = iZ) → zZ (zn (cI (YF.i z)) (lZ l)) (bF (DB.db (iZ ≤ (cI (YF.i z)) ∧ (cI (YF.i z)) < (lZ l))) (bF q1 ((iN ≤ Zl q3 q7 q9 s q ∧ Zl q3 q7 q9 s q ≤ iX) ∧ lN a ≤ nM ∧ zo a = iZ ∧ zZ (Xj q10 a != iZ) (j2 ∧ q4 ∧ kI ∧ Xj q10 a = wN l s q a) (zZ (Vb q10 a) (bF (DB.db ((lN (YF.out z) + 1) *
 24 ≤ 140737488355328)) (bF q11 (∃ (z' : YF), (((YF.i z' ≤ lN l ∧ YF.out z' = um (UI l s q a) (List.take (YF.i z') l) ∧ ∀ (i : Nat), i < YF.i z' → RS l s q a (gD l i r0) = iZ) ∧ lN l - YF.i z' < lN l - YF.i z) ∧ zc q2 q2 ∧ (kI ∧ s = s) ∧ (kI ∧ q = q) ∧ a = a ∧ (nat_lit 0 = 0 ∧ 0 = 0) ∧ zc q2 q2 ∧ q5 ∧ (nat_lit 1 = 1 ∧ 0 = 0 ∧ lN (YF.out z') = lN (YF.out z) + 1) ∧ kI ∧ (cI (YF.i z)) + iO = (cI (YF.i z'))) ∧ q6 ∧ (40 : TypeId) = 40 ∧ 3 = 3 ∧ List.length
 (YF.out z') = lN (YF.out z) + 1 ∧ ∀ (i j : Nat), i < lN (YF.out z) + 1 → j < 3 → zc (if i < lN (YF.out z) then zp.enc (gD (YF.out z) i zp.dflt) j else Sx.rowAt [zT [AV.v (Array.getD (Value.cells (Value.agg #[Value.int .i64 iZ, Value.int .i64 iZ, Value.int .i64 iZ])) 0 undef), aI q7, aI q9]] (i - lN (YF.out z)) j) (zp.enc (gD (YF.out z') i zp.dflt) j)))) (bF q11 (∃ (z' : YF), (((YF.i z' ≤ lN l ∧ YF.out z' = um (UI l s q a) (List.take (YF.i
 z') l) ∧ ∀ (i : Nat), i < YF.i z' → RS l s q a (gD l i r0) = iZ) ∧ lN l - YF.i z' < lN l - YF.i z) ∧ zc q2 q2 ∧ (kI ∧ s = s) ∧ (kI ∧ q = q) ∧ a = a ∧ (nat_lit 0 = 0 ∧ 0 = 0) ∧ zc q2 q2 ∧ q5 ∧ (nat_lit 1 = 1 ∧ 0 = 0 ∧ lN (YF.out z') = lN (YF.out z)) ∧ kI ∧ (cI (YF.i z)) + iO = (cI (YF.i z'))) ∧ q6 ∧ 40 = 40 ∧ 3 = 3 ∧ lN (YF.out z') = lN (YF.out z) ∧ ∀ (i j : Nat), i < lN (YF.out z) → j < 3 → zc (zp.enc (gD (YF.out z) i zp.dflt) j)
 (zp.enc (gD (YF.out z') i zp.dflt) j))))))) (zZ ((lZ (YF.out z)) == iZ) (j2 ∧ q4 ∧ kI ∧ (25 : Int) = wN l s q a) (bF (Nat.beq (lN (YF.out z)) (lN (YF.out z)) && Nat.beq 3 3 && Nat.blt (nat_lit 1) (nat_lit 2) && Nat.beq 60 60) ((lN (YF.out z) < 4611686018427387904 ∧ ∀ (i : Nat), i < lN (YF.out z) → (je fun (j : Nat) => zp.enc (gD (YF.out z) i zp.dflt) j) = true) ∧ ∀ (p : List Nat), let q12 := (gD (YF.out z) (gD p 0 0)
 zp.dflt); List.Perm p (List.range (lN (YF.out z))) ∧ List.Pairwise (fun i j => ¬(Ps (fun (j_1 : Nat) => zp.enc (gD (YF.out z) j zp.dflt) j_1) fun (j : Nat) => zp.enc (gD (YF.out z) i zp.dflt) j) < iZ) p → zZ (DB.db (iZ ≤ iZ ∧ iZ < (lZ (YF.out z)))) (j2 ∧ (True ∧ 3 = 3 ∧ ((kI ∧ Sz.k q12 = Sz.k (uA l s q a)) ∧ kI ∧ Sz.w q12 = Sz.w (uA l s q a)) ∧ kI ∧ Sz.d q12 = Sz.d (uA l s q a)) ∧ kI ∧ iZ = wN l s q a)
 False)))))) := by
 delta bF dK nM cI kI j2 lZ lN gD iZ iO iX iN aI
 dsimp only
 intro hb
 have e2 : (zp.dflt : Row) = r0 := rfl
 have e3 : (zp.dflt : Sz) = s0 := rfl
 simp only [↓ZK, ↓ZT, row_one]
 simp only [sS, ZN, Zr, ZS, ZY, YJ, yn, W9, Yd, vN, YA, vk, Yb, YC, yM, e2, e3]
 refine ⟨fun h => ?_, fun h => ⟨hl, fun h2 => ?_, fun h2 => ⟨⟨⟨0, []⟩, ⟨⟨Nat.zero_le _, rfl, fun i hi => absurd hi (Nat.not_lt_zero _)⟩, rfl, rfl⟩, rfl⟩, fun z ⟨z1, z2, z3⟩ => ⟨fun hz => ⟨⟨by omega, hz⟩, ?_, hl, Py h2, fun h4 => ?_, fun h4 => ?_⟩, fun hz => ?_⟩⟩⟩⟩
 ·have e := NS (a := a) h
  rw [XE (by rw [e]; exact h), e]
  exact ⟨rfl, ⟨⟨rfl, rfl⟩, rfl⟩, rfl⟩
 ·have e := mA h h2
  rw [XE (by rw [e]; exact h2), e]
  exact ⟨rfl, ⟨⟨rfl, rfl⟩, rfl⟩, rfl⟩
 ·have := xW (w := (l.getD z.i r0).w) (d := (l.getD z.i r0).d) (s := s) (q := q) (Xr h).1
  omega
 ·have e := lL h h2 (i := z.i) (by omega) z3 h4
  rw [XE (by rw [e]; exact h4), e]
  exact ⟨rfl, ⟨⟨rfl, rfl⟩, rfl⟩, rfl⟩
 ·have hl6 := (VO (Xr h).1).1
  have hlo : z.out.length ≤ z.i := by rw [z2]; exact Nat.le_trans P5 (by rw [List.length_take]; omega)
  have ht : l.take (z.i + 1) = l.take z.i ++ [l.getD z.i r0] := TC (d := r0) (by omega)
  have n3 : ∀ i, i < z.i + 1 → RS l s q a (l.getD i r0) = 0 := fun i hi => by
   by_cases e : i = z.i
   ·rw [e]; exact h4
   ·exact z3 i (by omega)
  have hs : um (UI l s q a) (l.take (z.i + 1)) = z.out ++ bif Vb (Zl l (l.getD z.i r0).w (l.getD z.i r0).d s q) a then [⟨0, (l.getD z.i r0).w, (l.getD z.i r0).d⟩] else [] := by
   rw [ht, RH, ← z2]; rfl
  refine zu.2 ⟨fun c => ⟨by omega, ⟨by omega, by omega⟩, ⟨z.i + 1, z.out ++ [⟨0, (l.getD z.i r0).w, (l.getD z.i r0).d⟩]⟩, ⟨⟨⟨by simp only; omega, ?_, n3⟩, by simp only; omega⟩, by simp, by simp⟩, by simp, fun i j hi hj => ?_⟩,
   fun c => ⟨⟨by omega, by omega⟩, ⟨z.i + 1, z.out⟩, ⟨⟨⟨by simp only; omega, ?_, n3⟩, by simp only; omega⟩, rfl, by simp⟩, rfl, fun i j _ _ => zX _⟩⟩
  ·show _ = _
   rw [hs, c]; rfl
  ·by_cases hi2 : i < z.out.length
   ·rw [if_pos hi2, show (z.out ++ [(⟨0, (l.getD z.i r0).w, (l.getD z.i r0).d⟩ : Sz)]).getD i s0 = z.out.getD i s0 by simp [List.getD_eq_getElem?_getD, List.getElem?_append_left hi2]]
    exact zX _
   ·obtain rfl : i = z.out.length := by omega
    rw [if_neg hi2, show (z.out ++ [(⟨0, (l.getD z.i r0).w, (l.getD z.i r0).d⟩ : Sz)]).getD z.out.length s0 = ⟨0, (l.getD z.i r0).w, (l.getD z.i r0).d⟩ by simp [List.getD_eq_getElem?_getD]]
    match j, hj with
    | 0, _ => exact zX _
    | 1, _ => exact zX _
    | 2, _ => exact zX _
  ·show _ = _
   rw [hs, c, cond_false, List.append_nil]
 ·have hzl : z.i = l.length := by omega
  rw [hzl, List.take_length] at z2
  rw [hzl] at z3
  have e := Mt h h2 z3
  rw [← z2] at e
  have hl6 := (VO (Xr h).1).1
  have hlo : z.out.length ≤ l.length := by rw [z2]; exact P5
  refine ⟨fun h0 => ?_, fun h0 => ?_⟩
  ·rw [show Nat.beq z.out.length 0 = true by rw [show z.out.length = 0 by omega]; rfl] at e
   rw [XE (by rw [e]; decide), e]
   exact ⟨rfl, ⟨⟨rfl, rfl⟩, rfl⟩, rfl⟩
  ·have hne : z.out ≠ [] := fun e => h0 (by rw [e]; rfl)
   rw [show Nat.beq z.out.length 0 = false from Bool.eq_false_iff.2 fun e => h0 (by rw [Nat.eq_of_beq_eq_true e]; rfl)] at e
   have ev : uA l s q a = minS z.out := by unfold uA; rw [e, ← z2]; rfl
   have hk : ∀ x ∈ z.out, (1 ≤ x.w ∧ x.k = 0) ∧ O0 x = true := fun x hx => by
    rw [z2] at hx
    obtain ⟨y, hy, _, rfl⟩ := Pn.1 hx
    have := (Xr h).2 y hy
    refine ⟨⟨this.1.1, rfl⟩, ?_⟩
    unfold O0
    rw [Bool.and_eq_true, Z2, Z2]
    simp only
    omega
   refine zu.2 ⟨fun _ => ⟨⟨by omega, fun i hi => ?_⟩, fun p ⟨p1, p2⟩ => ⟨⟨by omega, by omega⟩, rfl, ?_, e.symm⟩⟩, fun hc => ?_⟩
   ·have hm : z.out.getD i s0 ∈ z.out := by
     rw [List.getD_eq_getElem?_getD, List.getElem?_eq_getElem hi]
     exact List.getElem_mem hi
    exact (hk _ hm).2
   ·rw [ev, ← ny hne (fun x hx => (hk x hx).1) p1 p2]
    exact ⟨⟨rfl, rfl⟩, rfl⟩
   ·rw [show z.out.length.beq z.out.length = true from Nat.beq_refl _] at hc
    cases hc
end Go.Te

namespace Go.Te
open Go Go.Sx Go.Proofs Go.Ar Go.RowKit
set_option maxRecDepth 100000
set_option maxHeartbeats 4000000
theorem nD (a : zh) : (((a.getD 0 0).toNat : Int) = 45) ↔ (a.getD 0 0 == 45) = true := by
 have := yb (a.getD 0 0) 45 (by decide)
 rw [← beq_iff_eq (a := ((a.getD 0 0).toNat : Int)) (b := 45), show (((a.getD 0 0).toNat : Int) == 45) = (a.getD 0 0 == 45) from this]
def Qb : List AV → Option (List zN × AV)
 | [.str a] => some ([.p (a.length ≤ 100000000)], .i (vw a))
 | _ => none
theorem jS (G : List (Nat × Obj)) (a : List UInt8) (hl : a.length ≤ 100000000) :
 zB [AV.str a] → lN a ≤ 100000000 ∧ zZ (zo a != iZ) (kI ∧ zo a = vw a) (bF (DB.db (iZ ≤ iZ ∧ iZ < (lZ a))) (zZ ((cI (UInt8.toNat (gD a 0 (0 : UInt8)))) == (45 : Int)) (kI ∧ (2 : Int) = vw a) (kI ∧ iZ = vw a))) := by
 delta bF cI kI lZ lN gD iZ
 intro hb
 simp only [sS, ZN, Zr, ZS, ZY, YJ, yn, W9, Yd, vN, YA, vk, Yb, YC, yM, Ze]
 unfold vw
 refine ⟨by omega, fun h => by rw [bne_iff_ne.2 h]; rfl, fun h => ⟨⟨Int.le_refl _, by have := PF h; omega⟩, fun h2 => ?_, fun h2 => ?_⟩⟩
 ·rw [h, (nD a).1 h2]; rfl
 ·rw [h, show (a.getD 0 0 == 45) = false from Bool.eq_false_iff.2 fun e => h2 ((nD a).2 e)]; rfl
theorem JV {G : List (Nat × Obj)} (hG : zM G) (a : List UInt8) (hl : a.length ≤ 100000000) : zS Tryz.prog G 85 [.str a] (.i (vw a)) :=
 zV (T := (wn G).plus 12 X6) (an := .auto) mixed (zY.plus zr (VG hG)) (Eq.mp (by kernel_rfl) (jS G a hl))
theorem JM {G : List (Nat × Obj)} (hG : zM G) : zQ Tryz.prog G 85 Qb := by
 intro xs ps r h hp
 unfold Qb at h
 split at h
 ·skip
  rename_i a
  cases h
  obtain ⟨q0, -⟩ := Zx hp
  exact weaken (ys := [.str a]) ⟨zX _, trivial⟩ (JV hG a q0)
 ·cases h
def Ny (n : Int) (a : zh) : Bool := bif Xj n a == 0 then Vb n a else zn 0 n
theorem K4 {n : Int} {a : zh} (hn : YZ .i64 n) (hr : zo a = 0) : Yw (Lib.itoa n) a = Xj n a ∧ (zn 0 n && leB 0 (wD (Lib.itoa n) a)) = Ny n a := by
 obtain ⟨r1, r2, r3, r4⟩ := Ui hn
 have e : Yw (Lib.itoa n) a = Xj n a := by
  unfold Xj Yw
  rw [r1, r2, r3, hr]
  rcases YN (zL a * ((1 : Nat) : Int)) with h1 | h1 <;> rcases YN (n * (zP a : Int)) with h2 | h2 <;> rw [h1, h2] <;> rfl
 refine ⟨e, ?_⟩
 unfold Ny
 cases he : Xj n a == 0 with
 | false =>
  unfold wD
  rw [e, he, cond_false, cond_false, show leB 0 0 = true from rfl, Bool.and_true]
 | true =>
  rw [cond_true]
  unfold Vb
  rw [he, Bool.true_and, kx (by rw [e]; exact eq_of_beq he), r2, r3]
  congr 1
  rw [Bool.eq_iff_iff, zF, zF, show zL a * ((1 : Nat) : Int) = zL a from Int.mul_one _]
  unfold Xt
  generalize n * (zP a : Int) = m
  by_cases h1 : m < zL a
  ·rw [(zq _ _).2 h1]; simp; omega
  ·rw [show zn m (zL a) = false from Bool.eq_false_iff.2 fun e => h1 ((zq _ _).1 e)]
   by_cases h2 : m = zL a
   ·rw [h2, beq_self_eq_true]; simp
   ·rw [beq_eq_false_iff_ne.2 h2]; simp; omega
def Qx : List AV → Option (List zN × AV)
 | [.v (.int .i64 n), .str a] => some ([.p (0 ≤ n ∧ n ≤ 1073741824), .p (a.length ≤ 100000000), .p (zo a = 0)], .tup 2 (zT [.b (Ny n a), .i (Xj n a)]))
 | _ => none
theorem KX (G : List (Nat × Obj)) (n : Int) (a : List UInt8) (hn : 0 ≤ n ∧ n ≤ 1073741824) (hl : a.length ≤ 100000000) (hr : zo a = 0) :
 zB [aI n, AV.str a] → (iZ ≤ n ∧ n < (4611686018427387904 : Int)) ∧ iO = iO ∧ lN (Lib.itoa n) ≤ 100000000 ∧ lN a ≤ 100000000 ∧ bF (!zU true (zn iZ n) || zU true (zn iZ n)) (bF (!zn iZ n || zU true (zn iZ n)) (j2 ∧ (True ∧ (bif zn iZ n then leB iZ (wD (Lib.itoa n) a) else false) = Ny n a) ∧ kI ∧ Yw (Lib.itoa n) a = Xj n a)) := by
 delta bF kI j2 lN iZ iO aI
 intro hb
 simp only [sS, ZN, Zr, ZS, ZY, YJ, yn, W9, Yd, vN, YA, vk, Yb, YC, yM, Ze]
 have hi : YZ .i64 n := ⟨by omega, by omega⟩
 obtain ⟨e1, e2⟩ := K4 hi hr
 have := (Ui hi).2.2.2
 exact ⟨⟨by omega, by omega⟩, by omega, hl, rfl, e2, e1⟩
theorem ir {G : List (Nat × Obj)} (hG : zM G) (n : Int) (a : List UInt8) (hn : 0 ≤ n ∧ n ≤ 1073741824) (hl : a.length ≤ 100000000) (hr : zo a = 0) : zS Tryz.prog G 86 [.i n, .str a] (.tup 2 (zT [.b (Ny n a), .i (Xj n a)])) :=
 zV (T := ((wn G).plus 126 Sq).plus 14 u7) (an := .auto) mixed (zY.plus (zY.plus zr (zQ.mono NB)) (PO hG)) (Eq.mp (by kernel_rfl) (KX G n a hn hl hr))
theorem JU {G : List (Nat × Obj)} (hG : zM G) : zQ Tryz.prog G 86 Qx := by
 intro xs ps r h hp
 unfold Qx at h
 split at h
 ·skip
  rename_i n a
  cases h
  obtain ⟨q0, q1, q2, -⟩ := Zx hp
  exact weaken (ys := [.i n, .str a]) ⟨zX _, zX _, trivial⟩ (ir hG n a q0 q1 q2)
 ·cases h
noncomputable def iv (G : List (Nat × Obj)) : Tb := ((((wn G).plus 84 Wm).plus 85 Qb).plus 80 t6).plus 86 Qx
theorem tN {G : List (Nat × Obj)} (hG : zM G) : zY Tryz.prog (iv G) := zY.plus (zY.plus (zY.plus (zY.plus zr (zQ.mono tL)) (JM hG)) (zQ.mono Pw)) (JU hG)
def Mn : List AV → Option (List zN × AV)
 | [x_l, .v (.int .i64 w), .v (.int .i64 d), .v (.int .i64 s), .v (.int .i64 q), .str a] => some ([.b (za Row x_l), .p (a.length ≤ 100000000)], .tup 2 (zT [.b (tU (xy (α := Row) x_l) w d s q a), .i (rj (xy (α := Row) x_l) w d s q a)]))
 | _ => none
theorem Ik (G : List (Nat × Obj)) (l : List Row) (w : Int) (d : Int) (s : Int) (q : Int) (a : List UInt8) (hl : a.length ≤ 100000000) :
 let q2 := (AV.xl false 5 (lN l) fun i j => zp.enc (gD l i zp.dflt) j); let q1 := (za Row q2); let q3 := (xy q2); let q4 := (rowsOf q2); let q5 := (Zl q4 w d s q); zB [AV.xl false 5 (lN l) fun i j => zp.enc (gD l i zp.dflt) j, aI w, aI d, aI s, aI q, AV.str a] → bF q1 (zZ (yr q3 w d s q != iZ) (j2 ∧ (True ∧ false = tU l w d s q a) ∧ kI ∧ yr q3 w d s q = rj l w d s q a) (lN a ≤ 100000000 ∧ zZ (vw
 a != iZ) (j2 ∧ (True ∧ false = tU l w d s q a) ∧ kI ∧ vw a = rj l w d s q a) (bF q1 ((iZ ≤ Zl q4 w d s q ∧ Zl q4 w d s q ≤ (1073741824 : Int)) ∧ lN a ≤ 100000000 ∧ zo a = iZ ∧ zZ (Xj q5 a != iZ) (j2 ∧ (True ∧ false = tU l w d s q a) ∧ kI ∧ Xj q5 a = rj l w d s q a) (j2 ∧ (True ∧ Ny q5 a = tU l w d s q a) ∧ kI ∧ iZ = rj l w d s q a))))) := by
 delta bF kI j2 lN gD iZ aI
 dsimp only
 intro hb
 have e2 : (zp.dflt : Row) = r0 := rfl
 simp only [sS, ZN, Zr, ZS, ZY, YJ, yn, W9, Yd, vN, YA, vk, Yb, YC, yM, e2]
 refine ⟨fun h => ?_, fun h => ⟨hl, fun h2 => ?_, fun h2 => ?_⟩⟩
 ·unfold tU rj
  rw [bne_iff_ne.2 h]
  exact ⟨rfl, rfl, rfl⟩
 ·unfold tU rj
  rw [h, bne_iff_ne.2 h2]
  exact ⟨rfl, rfl, rfl⟩
 ·have hb := xW (w := w) (d := d) (s := s) (q := q) (ws.1 h).1
  unfold tU rj
  rw [h, h2]
  refine ⟨⟨by omega, by omega⟩, hl, Py h2, fun h3 => ⟨rfl, ?_, rfl⟩, fun h3 => ⟨rfl, ?_, h3.symm⟩⟩
  ·show false = Vb _ _
   unfold Vb
   rw [beq_false_of_ne h3]; rfl
  ·unfold Ny
   rw [h3]; rfl
theorem gz {G : List (Nat × Obj)} (hG : zM G) (l : List Row) (w : Int) (d : Int) (s : Int) (q : Int) (a : List UInt8) (hl : a.length ≤ 100000000) : zS Tryz.prog G 35 [Zp l, .i w, .i d, .i s, .i q, .str a] (.tup 2 (zT [.b (tU l w d s q a), .i (rj l w d s q a)])) :=
 zV (T := iv G) (an := .auto) mixed (tN hG) (Eq.mp (by kernel_rfl) (Ik G l w d s q a hl))
theorem gm {G : List (Nat × Obj)} (hG : zM G) : zQ Tryz.prog G 35 Mn := by
 intro xs ps r h hp
 unfold Mn at h
 split at h
 ·skip
  rename_i x_l w d s q a
  cases h
  obtain ⟨q0, q1, -⟩ := Zx hp
  exact weaken (ys := [Zp (xy (α := Row) x_l), .i w, .i d, .i s, .i q, .str a]) ⟨zi q0, zX _, zX _, zX _, zX _, zX _, trivial⟩ (gz hG (xy (α := Row) x_l) w d s q a q1)
 ·cases h
theorem sF : ∀ (r : List Sz) (m x : Sz), Vh m (r ++ [x]) = bif zn (x9 x (Vh m r)) 0 then x else Vh m r
 | [], _, _ => rfl
 | y :: r, m, x => sF r _ x
theorem OE {l : List Sz} {x : Sz} (h : ∀ y ∈ l, 1 ≤ y.w) : minS (l ++ [x]) = bif (minS l).w == 0 || zn (x9 x (minS l)) 0 then x else minS l := by
 match l, h with
 | [], _ => rfl
 | y :: r, h =>
  have := h _ (WP (l := y :: r) (by simp))
  rw [show ((minS (y :: r)).w == 0) = false from beq_eq_false_iff_ne.2 (by omega), Bool.false_or]
  exact sF r y x
structure YS where
 i : Nat
 o : Sz
def JB (l : List Row) (s q : Int) (a : zh) : yW :=
 .two .auto (.two .auto (.two .auto (.two .auto (.two (.two .auto (.one (.loop YS (fun σ z => [(0, σ.tm 0), (1, σ.tm 1), (2, σ.tm 2), (3, σ.tm 3), (8, σ.tm 8), (12, σ.tm 12), (13, .i z.i)]) (fun σ z => [(1, .box 40 3 (zT [.i z.o.k, .i z.o.w, .i z.o.d]))]) 0 (fun σ z => z.i ≤ l.length ∧ z.o = minS (um (UI l s q a) (l.take z.i)) ∧ ∀ i, i < z.i → RS l s q a (l.getD i r0) = 0) (fun σ z => l.length - z.i) .auto))) .auto))))
def lK : List AV → Option (List zN × AV)
 | [x_l, .v (.int .i64 s), .v (.int .i64 q), .str a] => some ([.b (za Row x_l), .p (a.length ≤ 100000000)], .tup 2 (zT [yx (uA (xy (α := Row) x_l) s q a), .i (wN (xy (α := Row) x_l) s q a)]))
 | _ => none
theorem JP (G : List (Nat × Obj)) (l : List Row) (s : Int) (q : Int) (a : List UInt8) (hl : a.length ≤ 100000000) :
 let q2 := (AV.xl false 5 (lN l) fun i j => zp.enc (gD l i zp.dflt) j); let q1 := (za Row q2); let q3 := (xy q2); let q4 := (True ∧ 3 = 3 ∧ ((kI ∧ iZ = Sz.k (uA l s q a)) ∧ kI ∧ iZ = Sz.w (uA l s q a)) ∧ kI ∧ iZ = Sz.d (uA l s q a)); let q5 := (40 = 40 ∧ 3 = 3 ∧ ((kI ∧ iZ = iZ) ∧ kI ∧ iZ = iZ) ∧ kI ∧ iZ = iZ); let q7 := (rowsOf q2); zB [AV.xl false 5 (lN l) fun i j => zp.enc (gD l i zp.dflt) j,
 aI s, aI q, AV.str a] → bF q1 (zZ (yr q3 iO iO s q != iZ) (j2 ∧ q4 ∧ kI ∧ yr q3 iO iO s q = wN l s q a) (lN a ≤ 100000000 ∧ zZ (vw a != iZ) (j2 ∧ q4 ∧ kI ∧ vw a = wN l s q a) ((∃ (z : YS), ((YS.i z ≤ lN l ∧ YS.o z = minS (um (UI l s q a) (List.take (YS.i z) l)) ∧ ∀ (i : Nat), i < YS.i z → RS l s q a (gD l i r0) = iZ) ∧ zc q2 q2 ∧ (kI ∧ s = s) ∧
 (kI ∧ q = q) ∧ a = a ∧ (nat_lit 0 = 0 ∧ 0 = 0) ∧ (nat_lit 1 = 1 ∧ 0 = 0) ∧ kI ∧ iZ = (cI (YS.i z))) ∧ q5 ∧ (40 : TypeId) = 40 ∧ 3 = 3 ∧ ((kI ∧ iZ = Sz.k (YS.o z)) ∧ kI ∧ iZ = Sz.w (YS.o z)) ∧ kI ∧ iZ = Sz.d (YS.o z)) ∧ ∀ (z : YS), let q6 := (DB.db (iZ ≤ (cI (YS.i z)) ∧ (cI (YS.i z)) < (lZ l))); let q9 := (gD l (Int.toNat (cI (YS.i z))) zp.dflt); let q8 := (Row.w q9); let q10 := (Row.d q9); let q11 := (Zl q7 q8 q10 s q); let q13
 := (Ny q11 a); let q12 := (!zU true q13 || zU true q13); let q15 := (zU true q13 && zU false (Sz.w (YS.o z) == iZ)); let q14 := (!q15 || zU true q13 && zU false (Sz.w (YS.o z) == iZ)); let q17 := (Row.w q9 * Row.d q9); let q16 := (YZ .i64 q17); let q18 := (YZ .i64 (Sz.w (YS.o z) * Sz.d (YS.o z))); let q21 := (bif Sz.w (YS.o z) == iZ then true else zn q17 (Sz.w (YS.o z) * Sz.d (YS.o z))); let q20 := (zU true q13 && zU false q21); let q19 := (!q20 || zU true q13 && zU false q21); let q23 := (Row.w q9 * Row.d q9 == Sz.w (YS.o z) * Sz.d (YS.o
 z)); let q22 := (!(zU true q13 && zU false q21 && zU true q23) || zU true q13 && zU false q21 && zU true q23); let q24 := (dK ((cI (YS.i z)) + iO)); (YS.i z ≤ lN l ∧ YS.o z = minS (um (UI l s q a) (List.take (YS.i z) l)) ∧ ∀ (i : Nat), i < YS.i z → RS l s q a (gD l i r0) = iZ) → zZ (zn (cI (YS.i z)) (lZ l)) (bF q6 (bF q6 (bF q1 ((iZ ≤ Zl q7 q8 q10 s q ∧ Zl q7 q8 q10 s q ≤ (1073741824 : Int)) ∧ lN a ≤ 100000000 ∧ zo a = iZ ∧ zZ (Xj q11 a != iZ)
 (j2 ∧ q4 ∧ kI ∧ Xj q11 a = wN l s q a) (bF q12 (bF q12 (bF q12 (bF q14 (bF q14 (bF (!q15 || DB.db q16) (bF q14 (bF q14 (bF q14 (bF q14 (bF (!q15 || DB.db q18) (bF q14 (bF q14 (bF q12 (bF (!zU true q13 || (!!Sz.w (YS.o z) == iZ || zU true q13 && zU false (Sz.w (YS.o z) == iZ))) (bF q12 (bF q19 (bF q19 (bF (!q20 || DB.db q16) (bF q19 (bF q19 (bF q19 (bF q19 (bF (!q20 || DB.db q18) (bF q19 (bF q19 (bF q19 (zZ q22
 (bF q22 (bF q22 (bF q19 (bF (!q20 || (!Row.w q9 * Row.d q9 == Sz.w (YS.o z) * Sz.d (YS.o z) || zU true q13 && zU false q21 && zU true q23)) (bF q12 (bF (!zU true q13 || ((!!bif Sz.w (YS.o z) == iZ then true else zn q17 (Sz.w (YS.o z) * Sz.d (YS.o z))) || zU true q13 && zU false q21)) (bF (!Ny q11 a || zU true q13) (zZ (bif Ny q11 a then bif bif Sz.w (YS.o z) == iZ then true else zn q17 (Sz.w (YS.o z) * Sz.d (YS.o z)) then true else bif Row.w q9 * Row.d q9 == Sz.w (YS.o z) * Sz.d (YS.o z) then zn q8 (Sz.w (YS.o z)) else
 false else false) (bF q24 (∃ (z' : YS), (((YS.i z' ≤ lN l ∧ YS.o z' = minS (um (UI l s q a) (List.take (YS.i z') l)) ∧ ∀ (i : Nat), i < YS.i z' → RS l s q a (gD l i r0) = iZ) ∧ lN l - YS.i z' < lN l - YS.i z) ∧ zc q2 q2 ∧ (kI ∧ s = s) ∧ (kI ∧ q = q) ∧ a = a ∧ (nat_lit 0 = 0 ∧ 0 = 0) ∧ (nat_lit 1 = 1 ∧ 0 = 0) ∧ kI ∧ (cI (YS.i z)) + iO = (cI (YS.i z'))) ∧ q5 ∧ 40 = 40 ∧ 3 = 3 ∧ ((kI ∧ iZ = Sz.k (YS.o z')) ∧ kI ∧ Row.w q9 = Sz.w (YS.o
 z')) ∧ kI ∧ Row.d q9 = Sz.d (YS.o z'))) (bF q24 (∃ (z' : YS), (((YS.i z' ≤ lN l ∧ YS.o z' = minS (um (UI l s q a) (List.take (YS.i z') l)) ∧ ∀ (i : Nat), i < YS.i z' → RS l s q a (gD l i r0) = iZ) ∧ lN l - YS.i z' < lN l - YS.i z) ∧ zc q2 q2 ∧ (kI ∧ s = s) ∧ (kI ∧ q = q) ∧ a = a ∧ (nat_lit 0 = 0 ∧ 0 = 0) ∧ (nat_lit 1 = 1 ∧ 0 = 0) ∧ kI ∧ (cI (YS.i z)) + iO = (cI (YS.i z'))) ∧ q5 ∧ 40 = 40 ∧ 3 = 3 ∧ ((kI ∧ Sz.k (YS.o z) = Sz.k (YS.o z'))
 ∧ kI ∧ Sz.w (YS.o z) = Sz.w (YS.o z')) ∧ kI ∧ Sz.d (YS.o z) = Sz.d (YS.o z'))))))))))) False)))))))))))))))))))))))))))))))) (zZ (Sz.w (YS.o z) == iZ) (j2 ∧ q4 ∧ kI ∧ (25 : Int) = wN l s q a) (j2 ∧ (True ∧ 3 = 3 ∧ ((kI ∧ Sz.k
 (YS.o z) = Sz.k (uA l s q a)) ∧ kI ∧ Sz.w (YS.o z) = Sz.w (uA l s q a)) ∧ kI ∧ Sz.d (YS.o z) = Sz.d (uA l s q a)) ∧ kI ∧ iZ = wN l s q a))))) := by
 delta bF dK cI kI j2 lZ lN gD iZ iO aI
 dsimp only
 intro hb
 have e2 : (zp.dflt : Row) = r0 := rfl
 simp only [↓ZK, ↓ZT, row_one]
 simp only [sS, ZN, Zr, ZS, ZY, YJ, yn, W9, Yd, vN, YA, vk, Yb, YC, yM, e2]
 refine ⟨fun h => ?_, fun h => ⟨hl, fun h2 => ?_, fun h2 => ⟨⟨⟨0, s0⟩, ⟨⟨Nat.zero_le _, rfl, fun i hi => absurd hi (Nat.not_lt_zero _)⟩, rfl⟩, ⟨rfl, rfl⟩, rfl⟩, fun z ⟨z1, z2, z3⟩ => ⟨fun hz => ?_, fun hz => ?_⟩⟩⟩⟩
 ·have e := NS (a := a) h
  rw [XE (by rw [e]; exact h), e]
  exact ⟨rfl, ⟨⟨rfl, rfl⟩, rfl⟩, rfl⟩
 ·have e := mA h h2
  rw [XE (by rw [e]; exact h2), e]
  exact ⟨rfl, ⟨⟨rfl, rfl⟩, rfl⟩, rfl⟩
 all_goals
  have hk : ∀ n, ∀ y ∈ um (UI l s q a) (l.take n), (1 ≤ y.w ∧ y.w ≤ 1000) ∧ (1 ≤ y.d ∧ y.d ≤ 1000) ∧ y.k = 0 := fun n y hy => by
   obtain ⟨x, hx, _, rfl⟩ := Pn.1 hy
   have := (Xr h).2 x (List.mem_of_mem_take hx)
   exact ⟨this.1, this.2, rfl⟩
 ·have hfb := xW (w := (l.getD z.i r0).w) (d := (l.getD z.i r0).d) (s := s) (q := q) (ws.1 h).1
  have hrow : (1 ≤ (l.getD z.i r0).w ∧ (l.getD z.i r0).w ≤ 1000) ∧ (1 ≤ (l.getD z.i r0).d ∧ (l.getD z.i r0).d ≤ 1000) := by
   refine (Xr h).2 _ ?_
   rw [List.getD_eq_getElem?_getD, List.getElem?_eq_getElem (by omega)]
   exact List.getElem_mem (by omega)
  refine ⟨⟨by omega, hz⟩, ⟨by omega, hz⟩, ⟨by omega, by omega⟩, hl, Py h2, fun h4 => ?_, fun h4 => ?_⟩
  ·have e := lL h h2 (i := z.i) (by omega) z3 h4
   rw [XE (by rw [e]; exact h4), e]
   exact ⟨rfl, ⟨⟨rfl, rfl⟩, rfl⟩, rfl⟩
  have hl6 := (VO (Xr h).1).1
  have ht : l.take (z.i + 1) = l.take z.i ++ [l.getD z.i r0] := TC (d := r0) (by omega)
  have n3 : ∀ i, i < z.i + 1 → RS l s q a (l.getD i r0) = 0 := fun i hi => by
   by_cases e : i = z.i
   ·rw [e]; exact h4
   ·exact z3 i (by omega)
  have ho : (0 ≤ z.o.w ∧ z.o.w ≤ 1000) ∧ (0 ≤ z.o.d ∧ z.o.d ≤ 1000) ∧ z.o.k = 0 := by
   rw [z2]
   by_cases e : um (UI l s q a) (l.take z.i) = []
   ·rw [e]; decide
   ·have := hk _ _ (WP e); omega
  have er : Ny (Zl l (l.getD z.i r0).w (l.getD z.i r0).d s q) a = UI l s q a (l.getD z.i r0) := by unfold Ny; rw [h4]; rfl
  have key : minS (um (UI l s q a) (l.take (z.i + 1))) = bif UI l s q a (l.getD z.i r0) && (z.o.w == 0 || zn ((l.getD z.i r0).w * (l.getD z.i r0).d) (z.o.w * z.o.d) || (l.getD z.i r0).w * (l.getD z.i r0).d == z.o.w * z.o.d && zn (l.getD z.i r0).w z.o.w) then ⟨0, (l.getD z.i r0).w, (l.getD z.i r0).d⟩ else z.o := by
   rw [ht, RH]
   cases hf : UI l s q a (l.getD z.i r0) with
   | false => rw [cond_false, List.append_nil, ← z2]; rfl
   | true =>
    rw [cond_true, OE fun y hy => (hk _ y hy).1.1, ← z2, Bool.true_and, Bool.or_assoc]
    congr 2
    rw [Bool.eq_iff_iff, zq, x5, Bool.or_eq_true, Bool.and_eq_true, zq, zq, beq_iff_eq]
  rw [er]
  have i1 : YZ .i64 ((l.getD z.i r0).w * (l.getD z.i r0).d) := by
   have := Int.mul_le_mul hrow.1.2 hrow.2.2 (by omega) (by omega)
   have := Int.mul_nonneg (show 0 ≤ (l.getD z.i r0).w by omega) (show 0 ≤ (l.getD z.i r0).d by omega)
   simp only [YZ]; omega
  have i2 : YZ .i64 (z.o.w * z.o.d) := by
   have := Int.mul_le_mul ho.1.2 ho.2.1.2 (by omega) (by omega)
   have := Int.mul_nonneg ho.1.1 ho.2.1.1
   simp only [YZ]; omega
  generalize (l.getD z.i r0).w * (l.getD z.i r0).d = W at *
  generalize z.o.w * z.o.d = O at *
  generalize UI l s q a (l.getD z.i r0) = f at *
  have t1 : (!f || (!!z.o.w == 0 || f && !z.o.w == 0)) = true := by cases f <;> cases z.o.w == 0 <;> rfl
  have t2 : (!(f && !(z.o.w == 0 || zn W O)) || (!W == O || f && !(z.o.w == 0 || zn W O) && W == O)) = true := by cases f <;> cases z.o.w == 0 <;> cases zn W O <;> cases W == O <;> rfl
  have t3 : (!f || (!!(z.o.w == 0 || zn W O) || f && !(z.o.w == 0 || zn W O))) = true := by cases f <;> cases z.o.w == 0 <;> cases zn W O <;> rfl
  refine ⟨fun _ => i1, fun _ => i2, xA t1 ⟨fun _ => i1, fun _ => i2, xA t2 (xA t3 (zu.2 ⟨fun c => ?_, fun c => ?_⟩))⟩⟩
  ·rw [c, cond_true] at key
   exact ⟨by simp only [YZ]; omega, ⟨z.i + 1, ⟨0, (l.getD z.i r0).w, (l.getD z.i r0).d⟩⟩, ⟨⟨⟨by simp only; omega, key.symm, n3⟩, by simp only; omega⟩, by simp⟩, ⟨rfl, rfl⟩, rfl⟩
  ·rw [c, cond_false] at key
   exact ⟨by simp only [YZ]; omega, ⟨z.i + 1, z.o⟩, ⟨⟨⟨by simp only; omega, key.symm, n3⟩, by simp only; omega⟩, by simp⟩, ⟨rfl, rfl⟩, rfl⟩
 ·have hzl : z.i = l.length := by omega
  rw [hzl, List.take_length] at z2
  rw [hzl] at z3
  have hk := hk l.length
  rw [List.take_length] at hk
  have e := Mt h h2 z3
  by_cases hn : um (UI l s q a) l = []
  ·rw [hn] at e z2
   have e : wN l s q a = 25 := e
   rw [XE (by rw [e]; decide), e, z2]
   exact ⟨fun _ => ⟨rfl, ⟨⟨rfl, rfl⟩, rfl⟩, rfl⟩, fun c => absurd rfl c⟩
  ·have hm := hk _ (WP hn)
   rw [← z2] at hm
   rw [show Nat.beq (um (UI l s q a) l).length 0 = false from Bool.eq_false_iff.2 fun c => hn (List.length_eq_zero_iff.1 (Nat.eq_of_beq_eq_true c))] at e
   have e : wN l s q a = 0 := e
   have ev : uA l s q a = z.o := by unfold uA; rw [e, z2]; rfl
   rw [ev, e]
   exact ⟨fun c => by omega, fun _ => ⟨rfl, ⟨⟨rfl, rfl⟩, rfl⟩, rfl⟩⟩
theorem hJ {G : List (Nat × Obj)} (hG : zM G) (l : List Row) (s : Int) (q : Int) (a : List UInt8) (hl : a.length ≤ 100000000) : zS Tryz.prog G 36 [Zp l, .i s, .i q, .str a] (.tup 2 (zT [yx (uA l s q a), .i (wN l s q a)])) :=
 zV (T := iv G) (an := JB l s q a) mixed (tN hG) (Eq.mp (by kernel_rfl) (JP G l s q a hl))
theorem I9 {G : List (Nat × Obj)} (hG : zM G) : zQ Tryz.prog G 36 lK := by
 intro xs ps r h hp
 unfold lK at h
 split at h
 ·skip
  rename_i x_l s q a
  cases h
  obtain ⟨q0, q1, -⟩ := Zx hp
  exact weaken (ys := [Zp (xy (α := Row) x_l), .i s, .i q, .str a]) ⟨zi q0, zX _, zX _, zX _, trivial⟩ (hJ hG (xy (α := Row) x_l) s q a q1)
 ·cases h
end Go.Te

namespace Go.Te
open Go Go.Sx Go.Proofs Go.Ar Go.RowKit
set_option maxRecDepth 100000
set_option maxHeartbeats 4000000
def xC (x : AV) : List Mb := xy x
def NY (l : List Row) (s q : Int) (m : Mb) : Int := bif Nz m != 0 then Nz m else bif uy m != 0 then uy m else Yw (qz m) (Lib.itoa (Zl l m.w m.d s q * Zl l m.w m.d s q))
def jA (l : List Row) (s q : Int) (m : Mb) : Bool := Zl l m.w m.d s q == 0 || zn 0 (wD (qz m) (Lib.itoa (Zl l m.w m.d s q * Zl l m.w m.d s q)))
def XK (l : List Row) (s q : Int) (ms : List Mb) (i : Nat) : Int := bif zK (ms.getD i m0).k 1 5 then NY l s q (ms.getD i m0) else 0
def Uz (l : List Row) (s q : Int) (ms : List Mb) : Nat → List Int
 | 0 => []
 | z + 1 => Uz l s q ms z ++ bif zK (ms.getD z m0).k 1 5 && jA l s q (ms.getD z m0) then [(z : Int)] else []
def WY (l : List Row) (s q : Int) (ms : List Mb) : Int := bif yr l 1 1 s q != 0 then yr l 1 1 s q else bif Nat.blt 512 ms.length then 4 else Ya (XK l s q ms) ms.length 0
def qm (l : List Row) (s q : Int) (ms : List Mb) : List Int := bif WY l s q ms == 0 then Uz l s q ms ms.length else []
structure yy where
 i : Nat
 out : List Int
def HS (l : List Int) : OB := .arr 3 1 l.length fun i j => zp.enc (l.getD i zp.dflt) j
noncomputable def fu (G : List (Nat × Obj)) : Tb := (((((((wn G).plus 55 sH).plus 75 wP).plus 87 QX).plus 88 Lz).plus 58 XY).plus 89 PI).plus 90 Rz
theorem OU {G : List (Nat × Obj)} (hG : zM G) : zY Tryz.prog (fu G) :=
 zY.plus (zY.plus (zY.plus (zY.plus (zY.plus (zY.plus (zY.plus zr (zQ.mono PM)) (zQ.mono VT)) (JF hG)) (Hl hG)) (zQ.mono W0)) (jd hG)) (N8 hG)
theorem NG {l : List Row} {s q : Int} {ms : List Mb} (h : yr l 1 1 s q ≠ 0) : yr l 1 1 s q = WY l s q ms := by unfold WY; rw [bne_iff_ne.2 h]; rfl
theorem Pv {l : List Row} {s q : Int} {ms : List Mb} (h : yr l 1 1 s q = 0) (h2 : 512 < ms.length) : 4 = WY l s q ms := by unfold WY; rw [h, (zC _ _).2 h2]; rfl
theorem rt {l : List Row} {s q : Int} {ms : List Mb} (h : yr l 1 1 s q = 0) (h2 : ms.length ≤ 512) : WY l s q ms = Ya (XK l s q ms) ms.length 0 := by
 unfold WY
 rw [h, show Nat.blt 512 ms.length = false from Bool.eq_false_iff.2 fun e => by have := (zC _ _).1 e; omega]; rfl
theorem jL (m : Mb) : (qz m).length ≤ 700 := by
 unfold qz
 cases uy m == 0 with
 | true => exact Ut _ _ _
 | false => exact Nat.zero_le _
theorem qx {n : Int} (hn : 0 ≤ n ∧ n ≤ 1073741824) : 0 ≤ n * n ∧ n * n ≤ 1152921504606846976 := by
 have h1 : n.natAbs * n.natAbs ≤ 1073741824 * 1073741824 := Nat.mul_le_mul (by omega) (by omega)
 have h2 : ((n.natAbs * n.natAbs : Nat) : Int) = n * n := Int.natAbs_mul_self
 have h3 : 0 ≤ n * n := Int.mul_nonneg hn.1 hn.1
 omega
theorem rU (l : List Row) (s q : Int) (ms : List Mb) : ∀ z, (Uz l s q ms z).length ≤ z
 | 0 => Nat.le_refl _
 | z + 1 => by
  have := rU l s q ms z
  unfold Uz
  rw [List.length_append]
  cases zK (ms.getD z m0).k 1 5 && jA l s q (ms.getD z m0) with
  | true => simp; omega
  | false => simp; omega
def Hv (ms : List Mb) (l : List Row) (s q : Int) : yW :=
 .two .auto (.two .auto (.two .auto (.two .auto (.two (.two .auto (.one (.loop yy (fun σ z => [(1, σ.tm 1), (2, σ.tm 2), (3, σ.tm 3), (30, σ.tm 30), (31, σ.tm 31), (11, .ns σ.nb 0 z.out.length), (32, .i z.i)]) (fun σ z => [(σ.nb, HS z.out)]) 1 (fun σ z => z.i ≤ ms.length ∧ z.out = Uz l s q ms z.i ∧ ∀ i, i < z.i → XK l s q ms i = 0) (fun σ z => ms.length - z.i) .auto))) .auto))))
def mJ : List AV → Option (List zN × AV)
 | [x_ms, x_l, .v (.int .i64 s), .v (.int .i64 q)] => some ([.b (za Mb x_ms), .b (za Row x_l), .p (∀ x ∈ (xC x_ms), PL x)], .tup 2 (zT [Zp (qm (xy (α := Row) x_l) s q (xC x_ms)), .i (WY (xy (α := Row) x_l) s q (xC x_ms))]))
 | _ => none
theorem iq (G : List (Nat × Obj)) (ms : List Mb) (l : List Row) (s : Int) (q : Int) (hl : ∀ x ∈ ms, PL x) :
 let q2 := (AV.xl false 5 (lN l) fun i j => zp.enc (gD l i zp.dflt) j); let q1 := (za Row q2); let q3 := (rowsOf q2); let q4 := (True ∧ Value.slice (xf Addr) 0 0 = Value.slice (xf Addr) 0 0 ∧ lN (qm l s q ms) = 0); let q5 := (AV.xl false 11 (lN ms) fun i j => zp.enc (gD ms i zp.dflt) j); let q6 := (kI ∧ (lZ ms) = (lZ ms)); zB [AV.xl false 11 (lN ms) fun i j => zp.enc (gD ms i zp.dflt) j, AV.xl false 5 (lN l) fun i j => zp.enc (gD l i zp.dflt) j, AV.v
 (Value.int .i64 s), aI q] → bF q1 (zZ (yr q3 iO iO s q != iZ) (j2 ∧ q4 ∧ kI ∧ yr q3 iO iO s q = WY l s q ms) (zZ (zn (512 : Int) (lZ ms)) (j2 ∧ q4 ∧ kI ∧ (4 : Int) = WY l s q ms) ((∃ (z : yy), ((yy.i z ≤ lN ms ∧ yy.out z = Uz l s q ms (yy.i z) ∧ ∀ (i : Nat), i < yy.i z → XK l s q ms i = iZ) ∧ zc q2 q2 ∧ (kI ∧ s = s) ∧ (kI ∧ q = q) ∧ zc q5 q5 ∧ q6 ∧ (some
 (xf Nat) = some (xf Nat) ∧ 0 = 0 ∧ lN (yy.out z) = 0) ∧ kI ∧ iZ = (cI (yy.i z))) ∧ lN (yy.out z) = 0) ∧ ∀ (z : yy), let q7 := (gD ms (Int.toNat (cI (yy.i z))) zp.dflt); let q9 := (dK ((cI (yy.i z)) + iO)); let q8 := (bF q9 (∃ (z' : yy), (((yy.i z' ≤ lN ms ∧ yy.out z' = Uz l s q ms (yy.i z') ∧ ∀ (i : Nat), i < yy.i z' → XK l s q ms i = iZ) ∧ lN ms - yy.i z' < lN ms - yy.i z) ∧ zc q2 q2 ∧ (kI ∧ s = s) ∧ (kI ∧ q = q) ∧ zc q5 q5
 ∧ q6 ∧ (nat_lit 0 = 0 ∧ 0 = 0 ∧ lN (yy.out z') = lN (yy.out z)) ∧ kI ∧ (cI (yy.i z)) + iO = (cI (yy.i z'))) ∧ 3 = 3 ∧ 1 = 1 ∧ lN (yy.out z') = lN (yy.out z) ∧ ∀ (i j : Nat), i < lN (yy.out z) → j < 1 → kI ∧ gD (yy.out z) i zp.dflt = gD (yy.out z') i zp.dflt)); let q12 := (ZR (AV.agg 11 fun (i : Nat) => if 0 ≤ 0 + i ∧ 0 + i < 11 then (fun i j => zp.enc (gD ms i zp.dflt) j) (Int.toNat (cI (yy.i z))) (0 + (0 + i - 0)) else Zf (Value.agg #[Value.int .i64 (0 :
 Int), Value.int .i64 iZ, Value.int .i64 iZ, Value.string (ByteArray.mk #[]), Value.string (ByteArray.mk #[]), Value.string (ByteArray.mk #[]), Value.string (ByteArray.mk #[]), Value.string (ByteArray.mk #[]), Value.string (ByteArray.mk #[]), Value.int .i64 iZ, Value.int .i64 iZ]) (0 + i))); let q11 := (Mb.fr q12); let q13 := (Mb.to q12); let q10 := ((lN (zD.x q11) ≤ nX ∧ lN (zD.y q11) ≤ nX ∧ lN (zD.z q11) ≤ nX) ∧ lN (zD.x q13) ≤ nX ∧ lN (zD.y q13) ≤
 nX ∧ lN (zD.z q13) ≤ nX); let q15 := (Mb.w q7); let q16 := (Mb.d q7); let q14 := (Zl q3 q15 q16 s q * Zl q3 q15 q16 s q); let q17 := (qz q12); let q18 := (Lib.itoa q14); let q19 := (Zl q3 q15 q16 s q == iZ); (yy.i z ≤ lN ms ∧ yy.out z = Uz l s q ms (yy.i z) ∧ ∀ (i : Nat), i < yy.i z → XK l s q ms i = iZ) → zZ (zn (cI (yy.i z)) (lZ ms)) (bF (DB.db (iZ ≤ (cI (yy.i z)) ∧ (cI (yy.i z)) < (lZ ms))) (zZ (!zK (Mb.k q7) iO (5 : Int)) q8
 (q10 ∧ zZ (Nz q12 != iZ) (j2 ∧ q4 ∧ kI ∧ Nz q12 = WY l s q ms) (q10 ∧ zZ (uy q12 != iZ) (j2 ∧ q4 ∧ kI ∧ uy q12 = WY l s q ms) (bF q1 (bF (dK q14) ((iN ≤ Zl q3 q15 q16 s q * Zl q3 q15 q16 s q ∧ Zl q3 q15 q16 s q * Zl q3 q15 q16 s q ≤ iX) ∧ lN q17 ≤ nX ∧ lN q18 ≤ nX ∧ zZ (Yw q17 q18 != iZ) (j2 ∧
 q4 ∧ kI ∧ Yw q17 q18 = WY l s q ms) (bF (!zU false q19 || zU false q19) (bF (!!Zl q3 q15 q16 s q == iZ || zU false q19) (zZ (bif Zl q3 q15 q16 s q == iZ then true else zn iZ (wD q17 q18)) (zZ (DB.db ((lN (yy.out z) + 1) * 8 ≤ 140737488355328)) (bF q9 (∃ (z' : yy), (((yy.i z' ≤ lN ms ∧ yy.out z' = Uz l s q ms (yy.i z') ∧ ∀ (i : Nat), i < yy.i z' → XK l s q ms i = iZ) ∧ lN ms - yy.i z' < lN ms - yy.i z) ∧ zc q2 q2 ∧ (kI ∧ s = s) ∧ (kI ∧ q
 = q) ∧ zc q5 q5 ∧ q6 ∧ (nat_lit 0 = 0 ∧ 0 = 0 ∧ lN (yy.out z') = lN (yy.out z) + 1) ∧ kI ∧ (cI (yy.i z)) + iO = (cI (yy.i z'))) ∧ (3 : TypeId) = 3 ∧ 1 = 1 ∧ lN (yy.out z') = lN (yy.out z) + 1 ∧ ∀ (i j : Nat), i < lN (yy.out z) + 1 → j < 1 → zc (if i < lN (yy.out z) then aI (gD (yy.out z) i zp.dflt) else Sx.rowAt [fun (x : Nat) => aI (cI (yy.i z))] (i - lN (yy.out z)) j) (aI (gD (yy.out z') i zp.dflt))))
 False) q8)))))))))) (j2 ∧ (True ∧ zc (AV.xl false 1 (lN (yy.out z)) fun i j => aI (gD (yy.out z) (0 + i) zp.dflt)) (xI (qm l s q ms))) ∧ kI ∧ iZ = WY l s q ms)))) := by
 delta bF dK xI nX cI kI j2 lZ lN gD iZ iO iX iN aI
 dsimp only
 intro hb
 have e2 : (zp.dflt : Row) = r0 := rfl
 have e3 : (zp.dflt : Mb) = m0 := rfl
 have e0 : (zp.dflt : Int) = 0 := rfl
 simp only [↓ZK, ↓ZT, row_one]
 simp only [sS, ZN, Zr, ZS, ZY, YJ, yn, W9, Yd, vN, YA, vk, Yb, YC, yM, e2, e3, e0, rK, Uy, u6, vg, ga]
 have bad : ∀ e : Int, e ≠ 0 → e = WY l s q ms → 2 = [AV.junk, AV.junk].length ∧ (qm l s q ms).length = 0 ∧ e = WY l s q ms := fun e h0 h => ⟨rfl, by unfold qm; rw [← h, beq_eq_false_iff_ne.2 h0]; rfl, h⟩
 refine ⟨fun h => bad _ h (NG h), fun h => ⟨fun h2 => bad 4 (by decide) (Pv h (by omega)), fun h2 => ⟨⟨⟨0, []⟩, ⟨⟨Nat.zero_le _, rfl, fun i hi => absurd hi (Nat.not_lt_zero _)⟩, rfl, rfl⟩, rfl⟩, fun z ⟨z1, z2, z3⟩ => ⟨fun hz => ⟨⟨by omega, hz⟩, zu.2 ⟨fun c => ?_, fun c => ?_⟩⟩, fun hz => ?_⟩⟩⟩⟩
 ·rw [Bool.not_eq_true'] at c
  have e1 : XK l s q ms z.i = 0 := by unfold XK; rw [c]; rfl
  have e2 : Uz l s q ms (z.i + 1) = z.out := by
   show Uz l s q ms z.i ++ _ = _
   rw [c, ← z2]; exact List.append_nil _
  refine ⟨⟨by omega, by omega⟩, ⟨z.i + 1, z.out⟩, ⟨⟨⟨by simp only; omega, e2.symm, fun i hi => ?_⟩, by simp only; omega⟩, rfl, by simp⟩, rfl, fun _ _ _ _ => rfl⟩
  by_cases e : i = z.i
  ·rw [e]; exact e1
  ·exact z3 i (by simp only at hi; omega)
 ·rw [Bool.not_eq_false'] at c
  have hm : ms.getD z.i m0 ∈ ms := by
   rw [List.getD_eq_getElem?_getD, List.getElem?_eq_getElem (by omega)]
   exact List.getElem_mem (by omega)
  have hlm := hl _ hm
  have at_ : XK l s q ms z.i = NY l s q (ms.getD z.i m0) := by unfold XK; rw [c]; rfl
  have err : ∀ e : Int, e ≠ 0 → NY l s q (ms.getD z.i m0) = e → e = WY l s q ms := fun e h0 he => by
   rw [rt h (by omega), XX (by omega) z3 (by rw [at_, he]; exact h0), at_, he]
  have hbl := rU l s q ms z.i
  rw [← z2] at hbl
  have hn := xW (w := (ms.getD z.i m0).w) (d := (ms.getD z.i m0).d) (s := s) (q := q) (ws.1 h).1
  have nn := qx hn
  have l1 := jL (ms.getD z.i m0)
  have l2 := sn (n := Zl l (ms.getD z.i m0).w (ms.getD z.i m0).d s q * Zl l (ms.getD z.i m0).w (ms.getD z.i m0).d s q) (by omega)
  have zs : Uz l s q ms (z.i + 1) = z.out ++ bif jA l s q (ms.getD z.i m0) then [(z.i : Int)] else [] := by
   show Uz l s q ms z.i ++ _ = _
   rw [c, ← z2]; rfl
  refine ⟨hlm, fun h3 => bad _ h3 (err _ h3 ?_), fun h3 => ⟨hlm, fun h4 => bad _ h4 (err _ h4 ?_), fun h4 => ⟨⟨by omega, by omega⟩, ⟨by omega, by omega⟩, by omega, by omega, fun h5 => bad _ h5 (err _ h5 ?_), fun h5 => ?_⟩⟩⟩
  ·unfold NY; rw [bne_iff_ne.2 h3]; rfl
  ·unfold NY; rw [h3, bne_iff_ne.2 h4]; rfl
  ·unfold NY; rw [h3, h4]; rfl
  have z4 : ∀ i, i < z.i + 1 → XK l s q ms i = 0 := fun i hi => by
   by_cases e : i = z.i
   ·rw [e, at_]; unfold NY; rw [h3, h4, h5]; rfl
   ·exact z3 i (by omega)
  refine zu.2 ⟨fun c2 => ?_, fun c2 => ?_⟩
  ·have zs : Uz l s q ms (z.i + 1) = z.out ++ [(z.i : Int)] := by rw [zs]; unfold jA; rw [c2]; rfl
   refine ⟨by omega, ⟨by omega, by omega⟩, ⟨z.i + 1, z.out ++ [(z.i : Int)]⟩, ⟨⟨⟨by simp only; omega, zs.symm, z4⟩, by simp only; omega⟩, by simp, by simp⟩, by simp, fun i j hi hj => ?_⟩
   by_cases hi2 : i < z.out.length
   ·rw [if_pos hi2, show (z.out ++ [(z.i : Int)]).getD i 0 = z.out.getD i 0 by simp [List.getD_eq_getElem?_getD, List.getElem?_append_left hi2]]
    exact zX _
   ·obtain rfl : i = z.out.length := by omega
    rw [if_neg hi2, show (z.out ++ [(z.i : Int)]).getD z.out.length 0 = (z.i : Int) by simp [List.getD_eq_getElem?_getD]]
    exact zX _
  ·have zs : Uz l s q ms (z.i + 1) = z.out := by rw [zs]; unfold jA; rw [c2]; exact List.append_nil _
   exact ⟨⟨by omega, by omega⟩, ⟨z.i + 1, z.out⟩, ⟨⟨⟨by simp only; omega, zs.symm, z4⟩, by simp only; omega⟩, rfl, by simp⟩, rfl, fun _ _ _ _ => rfl⟩
 ·have ez : z.i = ms.length := by omega
  rw [ez] at z2 z3
  have e : WY l s q ms = 0 := by rw [rt h (by omega)]; exact xH z3
  have ev : qm l s q ms = z.out := by unfold qm; rw [e, ← z2]; rfl
  rw [ev, e]
  exact ⟨rfl, zX _, rfl⟩
theorem gZ {G : List (Nat × Obj)} (hG : zM G) (ms : List Mb) (l : List Row) (s : Int) (q : Int) (hl : ∀ x ∈ ms, PL x) : zS Tryz.prog G 37 [Zp ms, Zp l, .i s, .i q] (.tup 2 (zT [Zp (qm l s q ms), .i (WY l s q ms)])) :=
 zV (T := fu G) (an := Hv ms l s q) mixed (OU hG) (Eq.mp (by kernel_rfl) (iq G ms l s q hl))
theorem HC {G : List (Nat × Obj)} (hG : zM G) : zQ Tryz.prog G 37 mJ := by
 intro xs ps r h hp
 unfold mJ at h
 split at h
 ·skip
  rename_i x_ms x_l s q
  cases h
  obtain ⟨q0, q1, q2, -⟩ := Zx hp
  exact weaken (ys := [Zp (xC x_ms), Zp (xy (α := Row) x_l), .i s, .i q]) ⟨zi q0, zi q1, zX _, zX _, trivial⟩ (gZ hG (xC x_ms) (xy (α := Row) x_l) s q q2)
 ·cases h
end Go.Te

namespace Go.Te
open Go Go.Sx Go.Proofs Go.Ar Go.RowKit
set_option maxRecDepth 100000
set_option maxHeartbeats 4000000
def iC (m : Mb) : Prop := Rs m.fr ∧ Rs m.to
def ut (m : Mb) (n : Int) : Int := bif YU m.fr != 0 then YU m.fr else bif YU m.to != 0 then YU m.to else bif uy m != 0 then uy m else Yw (qz m) (Lib.itoa (n * n))
def qe (m : Mb) (n : Int) : Bool := bif ut m n == 0 then n == 0 || zn 0 (wD (qz m) (Lib.itoa (n * n))) else false
noncomputable def G4 (G : List (Nat × Obj)) : Tb := ((((((wn G).plus 135 UT).plus 136 S7).plus 137 Sa).plus 138 Rt).plus 126 Sq).plus 14 u7
theorem OL {G : List (Nat × Obj)} (hG : zM G) : zY Tryz.prog (G4 G) :=
 zY.plus (zY.plus (zY.plus (zY.plus (zY.plus (zY.plus zr (Pk hG)) (ju hG)) (jE hG)) (jP hG)) (zQ.mono NB)) (PO hG)
def MA : List AV → Option (List zN × AV)
 | [x_m, .v (.int .i64 n)] => some ([.b (ZH Mb x_m), .p (iC (ZR (α := Mb) x_m)), .p (0 ≤ n ∧ n ≤ 1073741824)], .tup 2 (zT [.b (qe (ZR (α := Mb) x_m) n), .i (ut (ZR (α := Mb) x_m) n)]))
 | _ => none
theorem iF (G : List (Nat × Obj)) (m : Mb) (n : Int) (hl : iC m) (hn : 0 ≤ n ∧ n ≤ 1073741824) :
 let q2 := (zD.mk (AV.bytes (AV.str (zD.x (Mb.fr m)))) (AV.bytes (AV.str (zD.y (Mb.fr m)))) (AV.bytes (AV.str (zD.z (Mb.fr m))))); let q1 := (lN (zD.x q2) ≤ 100000000 ∧ lN (zD.y q2) ≤ 100000000 ∧ lN (zD.z q2) ≤ 100000000); let q4 := (zD.mk (AV.bytes (AV.str (zD.x (Mb.to m)))) (AV.bytes (AV.str (zD.y (Mb.to m)))) (AV.bytes (AV.str (zD.z (Mb.to m))))); let q3 := (lN (zD.x q4) ≤ 100000000 ∧ lN (zD.y q4) ≤ 100000000 ∧ lN (zD.z q4) ≤ 100000000); let q6 := (wx q4 q2); let q5 := (zD.x q6); let q7 := (zD.y q6); let q8 := (Xa q5 q5);
 let q9 := (Xa q7 q7); let q10 := (YD (fun (x1 x2 : Int) => x1 + x2) q8 q9); zB [AV.agg 11 (zp.enc m), aI n] → q1 ∧ zZ (YU q2 != iZ) (j2 ∧ (True ∧ false = qe m n) ∧ kI ∧ YU q2 = ut m n) (q3 ∧ zZ (YU q4 != iZ) (j2 ∧ (True ∧ false = qe m n) ∧ kI ∧ YU q4 = ut m n) (q3 ∧ q1 ∧ zZ (Ws q4 q2 != iZ) (j2 ∧ (True ∧ false = qe m n) ∧ kI ∧ Ws q4 q2 = ut m n) (lN q5 ≤ 100000000 ∧
 lN q5 ≤ 100000000 ∧ zZ (XQ q5 q5 != iZ) (j2 ∧ (True ∧ false = qe m n) ∧ kI ∧ XQ q5 q5 = ut m n) (lN q7 ≤ 100000000 ∧ lN q7 ≤ 100000000 ∧ zZ (XQ q7 q7 != iZ) (j2 ∧ (True ∧ false = qe m n) ∧ kI ∧ XQ q7 q7 = ut m n) (lN q8 ≤ 100000000 ∧ lN q9 ≤ 100000000 ∧ zZ (yD (fun (x1 x2 : Int) => x1 + x2) q8 q9 != iZ) (j2 ∧ (True ∧ false = qe m n) ∧ kI ∧ yD (fun (x1 x2 : Int) =>
 x1 + x2) q8 q9 = ut m n) (bF (dK (n * n)) ((iZ ≤ n * n ∧ n * n < (4611686018427387904 : Int)) ∧ iO = iO ∧ lN q10 ≤ 100000000 ∧ lN (Lib.itoa (n * n)) ≤ 100000000 ∧ zZ (Yw q10 (Lib.itoa (n * n)) != iZ) (j2 ∧ (True ∧ false = qe m n) ∧ kI ∧ Yw q10 (Lib.itoa (n * n)) = ut m n) (bF (!zU false (n == iZ) || zU false (n == iZ)) (bF (!!n == iZ || zU false (n == iZ)) (j2 ∧ (True ∧ (bif n == iZ then true
 else zn iZ (wD q10 (Lib.itoa (n * n)))) = qe m n) ∧ kI ∧ iZ = ut m n)))))))))) := by
 delta bF dK kI j2 lN iZ iO aI
 dsimp only
 intro hb
 simp only [↓ZK, ↓ZT, row_one]
 simp only [sS, ZN, Zr, ZS, ZY, YJ, yn, W9, Yd, vN, YA, vk, Yb, YC, yM, kv]
 obtain ⟨l1, l2⟩ := PS m.to m.fr
 have l3 := ua (vX m) (vX m)
 have l4 := ua (vY m) (vY m)
 have l5 := Ut (fun x1 x2 => x1 + x2) (Xa (vX m) (vX m)) (Xa (vY m) (vY m))
 have eX : (wx m.to m.fr).x = vX m := rfl
 have eY : (wx m.to m.fr).y = vY m := rfl
 have nn := qx hn
 have l6 := sn (n := n * n) (by omega)
 simp only [eX, eY] at l1 l2 ⊢
 have bad : ∀ e : Int, e ≠ 0 → e = ut m n → 2 = [AV.junk, AV.junk].length ∧ false = qe m n ∧ e = ut m n := fun e h0 h => ⟨rfl, by unfold qe; rw [← h, beq_eq_false_iff_ne.2 h0]; rfl, h⟩
 refine ⟨hl.1, fun h => bad _ h ?_, fun h1 => ⟨hl.2, fun h => bad _ h ?_, fun h2 => ⟨hl.2, hl.1, fun h => bad _ h ?_, fun h3 => ⟨by omega, by omega, fun h => bad _ h ?_, fun h4 => ⟨by omega, by omega, fun h => bad _ h ?_, fun h5 => ⟨by omega, by omega, fun h => bad _ h ?_, fun h6 => ?_⟩⟩⟩⟩⟩⟩
 ·unfold ut; rw [bne_iff_ne.2 h]; rfl
 ·unfold ut; rw [h1, bne_iff_ne.2 h]; rfl
 ·unfold ut uy; rw [h1, h2, bne_iff_ne.2 h]; simp only [bne_self_eq_false, cond_false, cond_true]; rw [bne_iff_ne.2 h]; rfl
 ·unfold ut uy; rw [h1, h2, h3, bne_iff_ne.2 h]; simp only [bne_self_eq_false, cond_false, cond_true]; rw [bne_iff_ne.2 h]; rfl
 ·unfold ut uy; rw [h1, h2, h3, h4, bne_iff_ne.2 h]; simp only [bne_self_eq_false, cond_false, cond_true]; rw [bne_iff_ne.2 h]; rfl
 ·unfold ut uy; rw [h1, h2, h3, h4, h5]; simp only [bne_self_eq_false, cond_false, cond_true]; rw [bne_iff_ne.2 h]; rfl
 have e0 : uy m = 0 := by unfold uy; rw [h3, h4, h5, h6]; rfl
 have eS : YD (fun x1 x2 => x1 + x2) (Xa (vX m) (vX m)) (Xa (vY m) (vY m)) = qz m := by unfold qz; rw [e0]; rfl
 have eE : ut m n = Yw (qz m) (Lib.itoa (n * n)) := by unfold ut; rw [h1, h2, e0]; rfl
 rw [eS] at l5 ⊢
 refine ⟨⟨by omega, by omega⟩, ⟨by omega, by omega⟩, by omega, by omega, fun h => bad _ h eE.symm, fun h => ⟨rfl, ?_, by rw [eE, h]⟩⟩
 unfold qe
 rw [eE, h]; rfl
theorem gg {G : List (Nat × Obj)} (hG : zM G) (m : Mb) (n : Int) (hl : iC m) (hn : 0 ≤ n ∧ n ≤ 1073741824) : zS Tryz.prog G 91 [yx m, .i n] (.tup 2 (zT [.b (qe m n), .i (ut m n)])) :=
 zV (T := G4 G) (an := .auto) mixed (OL hG) (Eq.mp (by kernel_rfl) (iF G m n hl hn))
theorem H3 {G : List (Nat × Obj)} (hG : zM G) : zQ Tryz.prog G 91 MA := by
 intro xs ps r h hp
 unfold MA at h
 split at h
 ·skip
  rename_i x_m n
  cases h
  obtain ⟨q0, q1, q2, -⟩ := Zx hp
  exact weaken (ys := [yx (ZR (α := Mb) x_m), .i n]) ⟨zH q0, zX _, trivial⟩ (gg hG (ZR (α := Mb) x_m) n q1 q2)
 ·cases h
theorem HX {l : List Row} {s q : Int} {m : Mb} (hw : zK m.w 1 1000 = true) (hd : zK m.d 1 1000 = true) : NY l s q m = ut m (Zl l m.w m.d s q) ∧ (ut m (Zl l m.w m.d s q) = 0 → qe m (Zl l m.w m.d s q) = jA l s q m) := by
 refine ⟨?_, fun h => by unfold qe jA; rw [h]; rfl⟩
 unfold NY ut Nz
 rw [hw, hd]
 show (bif (bif YU m.fr != 0 then YU m.fr else YU m.to) != 0 then (bif YU m.fr != 0 then YU m.fr else YU m.to) else _) = _
 by_cases h : YU m.fr = 0
 ·rw [h]; rfl
 ·rw [bne_iff_ne.2 h, cond_true, bne_iff_ne.2 h]; rfl
noncomputable def fz (G : List (Nat × Obj)) : Tb := ((((wn G).plus 84 Wm).plus 63 wO).plus 80 t6).plus 91 MA
theorem oA {G : List (Nat × Obj)} (hG : zM G) : zY Tryz.prog (fz G) := zY.plus (zY.plus (zY.plus (zY.plus zr (zQ.mono tL)) (zQ.mono uv)) (zQ.mono Pw)) (H3 hG)
def Jv (ms : List Mb) (l : List Row) (s q : Int) : yW :=
 .two .auto (.two .auto (.two .auto (.two .auto (.two (.two .auto (.one (.loop yy (fun σ z => [(0, σ.tm 0), (1, σ.tm 1), (2, σ.tm 2), (3, σ.tm 3), (11, .ns σ.nb 0 z.out.length), (12, .i z.i)]) (fun σ z => [(σ.nb, HS z.out)]) 1 (fun σ z => z.i ≤ ms.length ∧ z.out = Uz l s q ms z.i ∧ ∀ i, i < z.i → XK l s q ms i = 0) (fun σ z => ms.length - z.i) .auto))) .auto))))
def lw : List AV → Option (List zN × AV)
 | [x_ms, x_l, .v (.int .i64 s), .v (.int .i64 q)] => some ([.b (za Mb x_ms), .b (za Row x_l), .p ((xC x_ms).length ≤ 512 → ∀ x ∈ (xC x_ms), iC x)], .tup 2 (zT [Zp (qm (xy (α := Row) x_l) s q (xC x_ms)), .i (WY (xy (α := Row) x_l) s q (xC x_ms))]))
 | _ => none
theorem Im (G : List (Nat × Obj)) (ms : List Mb) (l : List Row) (s : Int) (q : Int) (hl : ms.length ≤ 512 → ∀ x ∈ ms, iC x) :
 let q2 := (AV.xl false 5 (lN l) fun i j => zp.enc (gD l i zp.dflt) j); let q1 := (za Row q2); let q3 := (xy q2); let q4 := (True ∧ Value.slice (xf Addr) 0 0 = Value.slice (xf Addr) 0 0 ∧ lN (qm l s q ms) = 0); let q5 := (AV.xl false 11 (lN ms) fun i j => zp.enc (gD ms i zp.dflt) j); let q17 := (rowsOf q2); zB [AV.xl false 11 (lN ms) fun i j => zp.enc (gD ms i zp.dflt) j, AV.xl false 5 (lN l) fun i j => zp.enc (gD l i zp.dflt) j, aI s, aI q] → bF q1 (zZ (yr q3
 iO iO s q != iZ) (j2 ∧ q4 ∧ kI ∧ yr q3 iO iO s q = WY l s q ms) (zZ (zn (512 : Int) (lZ ms)) (j2 ∧ q4 ∧ kI ∧ (4 : Int) = WY l s q ms) ((∃ (z : yy), ((yy.i z ≤ lN ms ∧ yy.out z = Uz l s q ms (yy.i z) ∧ ∀ (i : Nat), i < yy.i z → XK l s q ms i = iZ) ∧ zc q5 q5 ∧ zc q2 q2 ∧ (kI ∧ s = s) ∧ (kI ∧ q = q) ∧ (some (xf Nat) = some (xf Nat) ∧ 0 = 0 ∧ lN (yy.out z) = 0 ∧ true = true
 ∧ 0 = 0) ∧ kI ∧ iZ = (cI (yy.i z))) ∧ lN (yy.out z) = 0) ∧ ∀ (z : yy), let q7 := (iZ ≤ (cI (yy.i z)) ∧ (cI (yy.i z)) < (lZ ms)); let q6 := (DB.db q7); let q8 := (gD ms (Int.toNat (cI (yy.i z))) zp.dflt); let q10 := (dK ((cI (yy.i z)) + iO)); let q9 := (bF q10 (∃ (z' : yy), (((yy.i z' ≤ lN ms ∧ yy.out z' = Uz l s q ms (yy.i z') ∧ ∀ (i : Nat), i < yy.i z' → XK l s q ms i = iZ) ∧ lN ms - yy.i z' < lN ms - yy.i z) ∧ zc q5 q5 ∧ zc q2 q2 ∧
 (kI ∧ s = s) ∧ (kI ∧ q = q) ∧ (nat_lit 0 = 0 ∧ 0 = 0 ∧ lN (yy.out z') = lN (yy.out z)) ∧ kI ∧ (cI (yy.i z)) + iO = (cI (yy.i z'))) ∧ 3 = 3 ∧ 1 = 1 ∧ lN (yy.out z') = lN (yy.out z) ∧ ∀ (i j : Nat), i < lN (yy.out z) → j < 1 → kI ∧ gD (yy.out z) i zp.dflt = gD (yy.out z') i zp.dflt)); let q12 := (Mb.w q8); let q11 := (!zU false !zK q12 iO (1000 : Int) || zU false !zK q12 iO (1000 : Int)); let q13 := (Mb.d q8); let
 q15 := (ZR (AV.agg 11 fun (i : Nat) => zp.enc q8 (0 + i))); let q14 := (Mb.fr q15); let q16 := (Mb.to q15); let q18 := (Zl q17 q12 q13 s q); (yy.i z ≤ lN ms ∧ yy.out z = Uz l s q ms (yy.i z) ∧ ∀ (i : Nat), i < yy.i z → XK l s q ms i = iZ) → zZ (zn (cI (yy.i z)) (lZ ms)) (bF q6 (zZ (!zK (Mb.k q8) iO (5 : Int)) q9 (bF q6 (bF q11 (bF q11 (bF (!zU false !zK q12 iO (1000 : Int) || DB.db q7) (bF q11 (bF q11 (bF q11 (bF (!!!zK q12 iO (1000 : Int) || zU false !zK
 q12 iO (1000 : Int)) (zZ (bif !zK q12 iO (1000 : Int) then true else !zK q13 iO (1000 : Int)) (j2 ∧ q4 ∧ kI ∧ (2 : Int) = WY l s q ms) (bF q6 (bF q6 (bF q6 (bF q1 (((lN (zD.x q14) ≤ 100000000 ∧ lN (zD.y q14) ≤ 100000000 ∧ lN (zD.z q14) ≤ 100000000) ∧ lN (zD.x q16) ≤ 100000000 ∧ lN (zD.y q16) ≤ 100000000 ∧ lN (zD.z q16) ≤ 100000000) ∧ (iZ ≤ Zl q17 q12 q13 s q ∧ Zl q17 q12 q13 s q ≤ (1073741824 : Int)) ∧ zZ (ut q15 q18 !=
 iZ) (j2 ∧ q4 ∧ kI ∧ ut q15 q18 = WY l s q ms) (zZ (qe q15 q18) (bF (DB.db ((lN (yy.out z) + 1) * 8 ≤ 140737488355328)) (bF q10 (∃ (z' : yy), (((yy.i z' ≤ lN ms ∧ yy.out z' = Uz l s q ms (yy.i z') ∧ ∀ (i : Nat), i < yy.i z' → XK l s q ms i = iZ) ∧ lN ms - yy.i z' < lN ms - yy.i z) ∧ zc q5 q5 ∧ zc q2 q2 ∧ (kI ∧ s = s) ∧ (kI ∧ q = q) ∧ (nat_lit 0 = 0 ∧ 0 = 0 ∧ lN (yy.out z') = lN (yy.out z) + 1) ∧ kI ∧
 (cI (yy.i z)) + iO = (cI (yy.i z'))) ∧ (3 : TypeId) = 3 ∧ 1 = 1 ∧ lN (yy.out z') = lN (yy.out z) + 1 ∧ ∀ (i j : Nat), i < lN (yy.out z) + 1 → j < 1 → zc (if i < lN (yy.out z) then aI (gD (yy.out z) i zp.dflt) else Sx.rowAt [fun (x : Nat) => aI (cI (yy.i z))] (i - lN (yy.out z)) j) (aI (gD (yy.out z') i zp.dflt))))) q9))))))))))))))))) (2 = lN [AV.junk,
 AV.junk] ∧ (True ∧ zc (AV.xl false 1 (lN (yy.out z)) fun i j => aI (gD (yy.out z) (0 + i) zp.dflt)) (xI (qm l s q ms))) ∧ kI ∧ iZ = WY l s q ms)))) := by
 delta bF dK xI cI kI j2 lZ lN gD iZ iO aI
 dsimp only
 intro hb
 have e2 : (zp.dflt : Row) = r0 := rfl
 have e3 : (zp.dflt : Mb) = m0 := rfl
 have e0 : (zp.dflt : Int) = 0 := rfl
 simp only [↓ZK, ↓ZT, row_one]
 simp only [sS, ZN, Zr, ZS, ZY, YJ, yn, W9, Yd, vN, YA, vk, Yb, YC, yM, e2, e3, e0, rK, Uy, u6, vg, ga, kv]
 have bad : ∀ e : Int, e ≠ 0 → e = WY l s q ms → 2 = [AV.junk, AV.junk].length ∧ (qm l s q ms).length = 0 ∧ e = WY l s q ms := fun e h0 h => ⟨rfl, by unfold qm; rw [← h, beq_eq_false_iff_ne.2 h0]; rfl, h⟩
 refine ⟨fun h => bad _ h (NG h), fun h => ⟨fun h2 => bad 4 (by decide) (Pv h (by omega)), fun h2 => ⟨⟨⟨0, []⟩, ⟨⟨Nat.zero_le _, rfl, fun i hi => absurd hi (Nat.not_lt_zero _)⟩, rfl, rfl⟩, rfl⟩, fun z ⟨z1, z2, z3⟩ => ⟨fun hz => ⟨⟨by omega, hz⟩, zu.2 ⟨fun c => ?_, fun c => ⟨⟨by omega, hz⟩, fun _ => ⟨by omega, hz⟩, ?_⟩⟩⟩, fun hz => ?_⟩⟩⟩⟩
 ·rw [Bool.not_eq_true'] at c
  have e1 : XK l s q ms z.i = 0 := by unfold XK; rw [c]; rfl
  have e2 : Uz l s q ms (z.i + 1) = z.out := by
   show Uz l s q ms z.i ++ _ = _
   rw [c, ← z2]; exact List.append_nil _
  refine ⟨⟨by omega, by omega⟩, ⟨z.i + 1, z.out⟩, ⟨⟨⟨by simp only; omega, e2.symm, fun i hi => ?_⟩, by simp only; omega⟩, rfl, by simp⟩, rfl, fun _ _ _ _ => rfl⟩
  by_cases e : i = z.i
  ·rw [e]; exact e1
  ·exact z3 i (by simp only at hi; omega)
 ·rw [Bool.not_eq_false'] at c
  have hm : ms.getD z.i m0 ∈ ms := by
   rw [List.getD_eq_getElem?_getD, List.getElem?_eq_getElem (by omega)]
   exact List.getElem_mem (by omega)
  have hlm := hl (by omega) _ hm
  have at_ : XK l s q ms z.i = NY l s q (ms.getD z.i m0) := by unfold XK; rw [c]; rfl
  have err : ∀ e : Int, e ≠ 0 → NY l s q (ms.getD z.i m0) = e → e = WY l s q ms := fun e h0 he => by
   rw [rt h (by omega), XX (by omega) z3 (by rw [at_, he]; exact h0), at_, he]
  have hbl := rU l s q ms z.i
  rw [← z2] at hbl
  have hn := xW (w := (ms.getD z.i m0).w) (d := (ms.getD z.i m0).d) (s := s) (q := q) (ws.1 h).1
  have zs : Uz l s q ms (z.i + 1) = z.out ++ bif jA l s q (ms.getD z.i m0) then [(z.i : Int)] else [] := by
   show Uz l s q ms z.i ++ _ = _
   rw [c, ← z2]; rfl
  refine zu.2 ⟨fun c1 => bad _ (by decide) (err _ (by decide) ?_), fun c1 => ?_⟩
  ·unfold NY Nz
   rw [c1]; rfl
  rw [Bool.or_eq_false_iff, Bool.not_eq_false', Bool.not_eq_false'] at c1
  obtain ⟨k1, k2⟩ := HX (l := l) (s := s) (q := q) c1.1 c1.2
  refine ⟨⟨by omega, hz⟩, ⟨by omega, hz⟩, ⟨by omega, hz⟩, hlm, hn, fun h3 => bad _ h3 (err _ h3 k1), fun h3 => ?_⟩
  have z4 : ∀ i, i < z.i + 1 → XK l s q ms i = 0 := fun i hi => by
   by_cases e : i = z.i
   ·rw [e, at_, k1, h3]
   ·exact z3 i (by omega)
  rw [k2 h3]
  refine zu.2 ⟨fun c2 => ?_, fun c2 => ?_⟩
  ·rw [c2, cond_true] at zs
   refine ⟨by omega, ⟨by omega, by omega⟩, ⟨z.i + 1, z.out ++ [(z.i : Int)]⟩, ⟨⟨⟨by simp only; omega, zs.symm, z4⟩, by simp only; omega⟩, by simp, by simp⟩, by simp, fun i j hi hj => ?_⟩
   by_cases hi2 : i < z.out.length
   ·rw [if_pos hi2, show (z.out ++ [(z.i : Int)]).getD i 0 = z.out.getD i 0 by simp [List.getD_eq_getElem?_getD, List.getElem?_append_left hi2]]
    exact zX _
   ·obtain rfl : i = z.out.length := by omega
    rw [if_neg hi2, show (z.out ++ [(z.i : Int)]).getD z.out.length 0 = (z.i : Int) by simp [List.getD_eq_getElem?_getD]]
    exact zX _
  ·rw [c2, cond_false, List.append_nil] at zs
   exact ⟨⟨by omega, by omega⟩, ⟨z.i + 1, z.out⟩, ⟨⟨⟨by simp only; omega, zs.symm, z4⟩, by simp only; omega⟩, rfl, by simp⟩, rfl, fun _ _ _ _ => rfl⟩
 ·have ez : z.i = ms.length := by omega
  rw [ez] at z2 z3
  have e : WY l s q ms = 0 := by rw [rt h (by omega)]; exact xH z3
  have ev : qm l s q ms = z.out := by unfold qm; rw [e, ← z2]; rfl
  rw [ev, e]
  exact ⟨rfl, zX _, rfl⟩
theorem H6 {G : List (Nat × Obj)} (hG : zM G) (ms : List Mb) (l : List Row) (s : Int) (q : Int) (hl : ms.length ≤ 512 → ∀ x ∈ ms, iC x) : zS Tryz.prog G 38 [Zp ms, Zp l, .i s, .i q] (.tup 2 (zT [Zp (qm l s q ms), .i (WY l s q ms)])) :=
 zV (T := fz G) (an := Jv ms l s q) mixed (oA hG) (Eq.mp (by kernel_rfl) (Im G ms l s q hl))
theorem HY {G : List (Nat × Obj)} (hG : zM G) : zQ Tryz.prog G 38 lw := by
 intro xs ps r h hp
 unfold lw at h
 split at h
 ·skip
  rename_i x_ms x_l s q
  cases h
  obtain ⟨q0, q1, q2, -⟩ := Zx hp
  exact weaken (ys := [Zp (xC x_ms), Zp (xy (α := Row) x_l), .i s, .i q]) ⟨zi q0, zi q1, zX _, zX _, trivial⟩ (H6 hG (xC x_ms) (xy (α := Row) x_l) s q q2)
 ·cases h
end Go.Te

namespace Go.Te
open Go Go.Sx Go.Proofs Go.Ar Go.RowKit
set_option maxRecDepth 100000
set_option maxHeartbeats 4000000
def sf (a : zh) : Bool := zn 40 (a.length : Int) && zn (a.length : Int) 299 || zn 604 (a.length : Int)
def NX (p : zD) : Bool := sf p.x || sf p.y || sf p.z
def mP : List AV → Option (List zN × AV)
 | [.str a] => some ([], .b (sf a))
 | _ => none
theorem iW (a : List UInt8) :
 let q2 := (zn (40 : Int) (lZ a)); let q1 := (!zU true q2 || zU true q2); let q4 := (bif zn (40 : Int) (lZ a) then zn (lZ a) (299 : Int) else false); let q3 := (!zU false q4 || zU false q4); zB [AV.str a] → bF q1 (bF q1 (bF (!zn (40 : Int) (lZ a) || zU true q2) (bF q3 (bF q3 (bF ((!!bif zn (40 : Int) (lZ a) then zn (lZ a) (299 : Int) else false) || zU false q4) ((bif bif zn (40 : Int) (lZ a) then zn (lZ a)
 (299 : Int) else false then true else zn (604 : Int) (lZ a)) = sf a)))))) := by
 delta bF lZ
 dsimp only
 intro hb
 unfold sf
 simp only [sS, ZN, Zr, ZS, ZY, YJ, yn, W9, Yd, vN, YA, vk, Yb, YC, yM]
theorem gu (a : List UInt8) : zS Tryz.prog [] 125 [.str a] (.b (sf a)) :=
 zV (T := T0) (an := .auto) mixed zr (Eq.mp (by kernel_rfl) (iW a))
theorem gh : zQ Tryz.prog [] 125 mP := by
 intro xs ps r h hp
 unfold mP at h
 split at h
 ·skip
  rename_i a
  cases h
  exact weaken (ys := [.str a]) ⟨zX _, trivial⟩ (gu a)
 ·cases h
def Lu : List AV → Option (List zN × AV)
 | [.agg 3 p_a] => some ([.b (ZO (p_a 0) && ZO (p_a 1) && ZO (p_a 2))], .b (NX (⟨AV.bytes (p_a 0), AV.bytes (p_a 1), AV.bytes (p_a 2)⟩ : zD)))
 | _ => none
theorem JD (a : zD) :
 let q1 := (!zU false (sf (zD.x a)) || zU false (sf (zD.x a))); let q3 := (bif sf (zD.x a) then true else sf (zD.y a)); let q2 := (!zU false q3 || zU false q3); zB [AV.agg 3 (zp.enc a)] → bF q1 (bF q1 (bF (!!sf (zD.x a) || zU false (sf (zD.x a))) (bF q2 (bF q2 (bF ((!!bif sf (zD.x a) then true else sf (zD.y a)) || zU false q3) ((bif bif sf (zD.x a) then true else sf (zD.y a) then true else sf (zD.z a)) = NX a)))))) := by
 delta bF
 dsimp only
 intro hb
 unfold NX
 simp only [sS, ZN, Zr, ZS, ZY, YJ, yn, W9, Yd, vN, YA, vk, Yb, YC, yM, kv]
theorem Hm (a : zD) : zS Tryz.prog [] 83 [yx a] (.b (NX a)) :=
 zV (T := T0.plus 125 mP) (an := .auto) mixed (zY.plus zr gh) (Eq.mp (by kernel_rfl) (JD a))
theorem Hd : zQ Tryz.prog [] 83 Lu := by
 intro xs ps r h hp
 unfold Lu at h
 split at h
 ·skip
  rename_i p_a
  cases h
  obtain ⟨q0, -⟩ := Zx hp
  exact weaken (ys := [yx (⟨AV.bytes (p_a 0), AV.bytes (p_a 1), AV.bytes (p_a 2)⟩ : zD)]) ⟨zH (x := .agg 3 p_a) (α := zD) q0, trivial⟩ (Hm (⟨AV.bytes (p_a 0), AV.bytes (p_a 1), AV.bytes (p_a 2)⟩ : zD))
 ·cases h
def Li (l : List Row) : Bool := zn 12 (l.length : Int) && leB (l.length : Int) 4096 || zn 4098 (l.length : Int)
def LQ : List AV → Option (List zN × AV)
 | [x_l] => some ([.b (za Row x_l)], .b (Li (xy (α := Row) x_l)))
 | _ => none
theorem J7 (l : List Row) :
 let q2 := (zn (12 : Int) (lZ l)); let q1 := (!zU true q2 || zU true q2); let q4 := (bif zn (12 : Int) (lZ l) then leB (lZ l) (4096 : Int) else false); let q3 := (!zU false q4 || zU false q4); zB [AV.xl false 5 (lN l) fun i j => zp.enc (gD l i zp.dflt) j] → bF q1 (bF q1 (bF (!zn (12 : Int) (lZ l) || zU true q2) (bF q3 (bF q3 (bF ((!!bif zn (12 : Int) (lZ l) then leB (lZ l) (4096 : Int) else false) || zU false q4) ((bif bif zn (12
 : Int) (lZ l) then leB (lZ l) (4096 : Int) else false then true else zn (4098 : Int) (lZ l)) = Li l)))))) := by
 delta bF lZ lN gD
 dsimp only
 intro hb
 have e2 : (zp.dflt : Row) = r0 := rfl
 simp only [sS, ZN, Zr, ZS, ZY, YJ, yn, W9, Yd, vN, YA, vk, Yb, YC, yM, e2]
 rfl
theorem He (l : List Row) : zS Tryz.prog [] 27 [Zp l] (.b (Li l)) :=
 zV (T := T0) (an := .auto) mixed zr (Eq.mp (by kernel_rfl) (J7 l))
theorem HQ : zQ Tryz.prog [] 27 LQ := by
 intro xs ps r h hp
 unfold LQ at h
 split at h
 ·skip
  rename_i x_l
  cases h
  obtain ⟨q0, -⟩ := Zx hp
  exact weaken (ys := [Zp (xy (α := Row) x_l)]) ⟨zi q0, trivial⟩ (He (xy (α := Row) x_l))
 ·cases h
def Jx (c : Qu) : Bool := Li c.l || (zn 40 (c.sp.length : Int) && zn (c.sp.length : Int) 290) || zn 610 (c.sp.length : Int)
def MV : List AV → Option (List zN × AV)
 | [x_c] => some ([.b (ZH Qu x_c)], .b (Jx (ZR (α := Qu) x_c)))
 | _ => none
theorem Ib (c : Qu) :
 let q1 := (AV.xl false 5 (lN (Qu.l c)) fun i j => zp.enc (gD (Qu.l c) i zp.dflt) j); let q4 := (xy q1); let q3 := (Li q4); let q2 := (!zU false q3 || zU false q3); let q6 := (zn (40 : Int) (lZ (Qu.sp c))); let q5 := (!(zU false q3 && zU true q6) || zU false q3 && zU true q6); let q8 := (bif Li q4 then true else bif zn (40 : Int) (lZ (Qu.sp c)) then zn (lZ (Qu.sp c)) (290 : Int) else false); let q7 := (!zU false q8 || zU false q8); zB [AV.agg 6 (zp.enc c)] → bF (za Row q1) (bF q2 (zZ q2
 (bF q2 (bF q2 (bF q5 (bF q5 (bF q5 (bF q2 (bF (!zU false q3 || (!zn (40 : Int) (lZ (Qu.sp c)) || zU false q3 && zU true q6)) (bF (!!Li q4 || zU false q3) (bF q7 (bF q7 (bF q7 (bF ((!!bif Li q4 then true else bif zn (40 : Int) (lZ (Qu.sp c)) then zn (lZ (Qu.sp c)) (290 : Int) else false) || zU false q8) ((bif bif Li q4 then true else bif zn (40 : Int) (lZ (Qu.sp c)) then zn (lZ (Qu.sp c)) (290 : Int) else false then true else zn (610 : Int)
 (lZ (Qu.sp c))) = Jx c))))))))))))) False)) := by
 delta bF lZ lN gD
 dsimp only
 intro hb
 have e2 : (zp.dflt : Row) = r0 := rfl
 unfold Jx
 simp only [sS, ZN, Zr, ZS, ZY, YJ, yn, W9, Yd, vN, YA, vk, Yb, YC, yM, e2, Mc, P1]
 refine xA ?_ trivial
 cases Li c.l <;> cases zn 40 (c.sp.length : Int) <;> rfl
theorem Hb (c : Qu) : zS Tryz.prog [] 32 [yx c] (.b (Jx c)) :=
 zV (T := T0.plus 27 LQ) (an := .auto) mixed (zY.plus zr HQ) (Eq.mp (by kernel_rfl) (Ib c))
theorem HT : zQ Tryz.prog [] 32 MV := by
 intro xs ps r h hp
 unfold MV at h
 split at h
 ·skip
  rename_i x_c
  cases h
  obtain ⟨q0, -⟩ := Zx hp
  exact weaken (ys := [yx (ZR (α := Qu) x_c)]) ⟨zH q0, trivial⟩ (Hb (ZR (α := Qu) x_c))
 ·cases h
def gM (m : Mb) : Bool := NX m.fr || NX m.to
def LA (ms : List Mb) : Bool := (ms.take 7).any gM || (zn 6 (ms.length : Int) && leB (ms.length : Int) 512) || zn 514 (ms.length : Int)
def IF (ms : List Mb) : yW :=
 .two .auto (.two (.two .auto (.one (.loop Nat (fun σ z => [(0, σ.tm 0), (3, .i z)]) (fun σ z => []) 0 (fun σ z => z ≤ ms.length ∧ z ≤ 7 ∧ ∀ i, i < z → gM (ms.getD i m0) = false) (fun σ z => ms.length - z) .auto))) .auto)
def Np : List AV → Option (List zN × AV)
 | [x_ms] => some ([.b (za Mb x_ms)], .b (LA (xC x_ms)))
 | _ => none
theorem Jq (ms : List Mb) :
 let q1 := (AV.xl false 11 (lN ms) fun i j => zp.enc (gD ms i zp.dflt) j); let q7 := (fun i j => zp.enc (gD ms i zp.dflt) j); let q12 := (zn (6 : Int) (lZ ms)); let q11 := (!zU true q12 || zU true q12); let q14 := (bif zn (6 : Int) (lZ ms) then leB (lZ ms) (512 : Int) else false); let q13 := (!zU false q14 || zU false q14); zB [AV.xl false 11 (lN ms) fun i j => zp.enc (gD ms i zp.dflt) j] → (∃ (z : Nat), ((z ≤ lN ms ∧ z ≤ 7 ∧ ∀ (i : Nat), i < z → gM (gD ms i m0) = false)
 ∧ zc q1 q1 ∧ kI ∧ iZ = (cI z)) ∧ True) ∧ ∀ (z : Nat), let q2 := (zn (cI z) (lZ ms)); let q3 := (iZ ≤ (cI z) ∧ (cI z) < (lZ ms)); let q6 := (zD.mk (AV.bytes (q7 (Int.toNat (cI z)) 3)) (AV.bytes (q7 (Int.toNat (cI z)) 4)) (AV.bytes (q7 (Int.toNat (cI z)) 5))); let q5 := (NX q6); let q4 := (!zU false q5 || zU false q5); let q8 := (q7 (Int.toNat (cI z)) 6); let q9 := (q7 (Int.toNat (cI z)) 7); let q10 := (q7 (Int.toNat (cI z)) 8); (z ≤ lN ms ∧ z ≤ 7 ∧ ∀ (i : Nat), i < z → gM
 (gD ms i m0) = false) → bF (!zU true q2 || zU true q2) (bF (!zn (cI z) (lZ ms) || zU true q2) (zZ (bif zn (cI z) (lZ ms) then zn (cI z) (7 : Int) else false) (bF (DB.db q3) (bF q4 (bF q4 (bF (!zU false q5 || DB.db q3) (bF q4 (bF q4 (bF q4 (bF (!zU false q5 || ZO q8 && ZO q9 && ZO q10) (bF (!!NX q6 || zU false q5) (zZ (bif NX q6 then true else NX (zD.mk (AV.bytes q8) (AV.bytes q9) (AV.bytes q10))) (true = LA ms) (bF (dK ((cI z) + (1 :
 Int))) (∃ (z' : Nat), (((z' ≤ lN ms ∧ z' ≤ 7 ∧ ∀ (i : Nat), i < z' → gM (gD ms i m0) = false) ∧ lN ms - z' < lN ms - z) ∧ zc q1 q1 ∧ kI ∧ (cI z) + iO = (cI z')) ∧ True)))))))))))) (bF q11 (bF q11 (bF (!zn (6 : Int) (lZ ms) || zU true q12) (bF q13 (bF q13 (bF ((!!bif zn (6 : Int) (lZ ms) then leB (lZ ms) (512 : Int) else false) || zU false q14) ((bif bif zn (6 : Int) (↑(lN ms) :
 Int) then leB (lZ ms) (512 : Int) else false then true else zn (514 : Int) (lZ ms)) = LA ms))))))))) := by
 delta bF dK cI kI lZ lN gD iZ iO
 dsimp only
 intro hb
 have e3 : (zp.dflt : Mb) = m0 := rfl
 simp only [↓ZK, ↓ZT, row_one]
 simp only [sS, ZN, Zr, ZS, ZY, YJ, yn, W9, Yd, vN, YA, vk, Yb, YC, yM, e3, rK, Uy, u6, vg, ga, kv]
 refine ⟨⟨0, ⟨Nat.zero_le _, by omega, fun i hi => absurd hi (Nat.not_lt_zero _)⟩, rfl⟩, fun z ⟨z1, z2, z3⟩ => zu.2 ⟨fun c => ?_, fun c => ?_⟩⟩
 ·rw [Bool.and_eq_true, zq, zq] at c
  have hl : ms.length ≤ 9223372036854775807 := hb.1
  refine ⟨⟨by omega, c.1⟩, fun _ => ⟨by omega, c.1⟩, xA (Bool.or_true _) (zu.2 ⟨fun h => ?_, fun h => ⟨by simp only [YZ]; omega, z + 1, ⟨⟨by omega, by omega, fun i hi => ?_⟩, by omega⟩, by omega⟩⟩)⟩
  ·have e : (ms.take 7).any gM = true := by
    refine List.any_eq_true.2 ⟨ms.getD z m0, ?_, h⟩
    rw [List.getD_eq_getElem?_getD, List.getElem?_eq_getElem (by omega)]
    exact List.mem_take_iff_getElem.2 ⟨z, by omega, rfl⟩
   unfold LA
   rw [e]; rfl
  ·by_cases e : i = z
   ·rw [e]; exact h
   ·exact z3 i (by omega)
 ·have e : (ms.take 7).any gM = false := by
   refine List.any_eq_false.2 fun x hx => ?_
   obtain ⟨i, hi, rfl⟩ := List.mem_take_iff_getElem.1 hx
   have hz : i < z := by
    refine Decidable.byContradiction fun hn => ?_
    rw [Bool.and_eq_false_iff, Bool.eq_false_iff, Bool.eq_false_iff, Ne, Ne, zq, zq] at c
    omega
   have := z3 i hz
   rw [List.getD_eq_getElem?_getD, List.getElem?_eq_getElem (by omega)] at this
   have this : gM ms[i] = false := this
   rw [this]
   decide
  unfold LA
  rw [e]; rfl
theorem HD (ms : List Mb) : zS Tryz.prog [] 33 [Zp ms] (.b (LA ms)) :=
 zV (T := T0.plus 83 Lu) (an := IF ms) mixed (zY.plus zr Hd) (Eq.mp (by kernel_rfl) (Jq ms))
theorem H4 : zQ Tryz.prog [] 33 Np := by
 intro xs ps r h hp
 unfold Np at h
 split at h
 ·skip
  rename_i x_ms
  cases h
  obtain ⟨q0, -⟩ := Zx hp
  exact weaken (ys := [Zp (xC x_ms)]) ⟨zi q0, trivial⟩ (HD (xC x_ms))
 ·cases h
end Go.Te

namespace Go.Proofs
open Go.Shelf
def Tryz.sortCut_ren : Go.Shelf.Ren := ⟨fun | 6 => 59 | 15 => 113 | 14 => 112 | 28 => 172 | 29 => 173 | 20 => 164 | 21 => 165 | 22 => 166 | 23 => 167 | 24 => 168 | 25 => 169 | 26 => 170 | 27 => 171 | 46 => 213 | 47 => 214 | 48 => 215 | 49 => 216 | 50 => 217 | 57 => 243 | n => n, fun | 22 => 91 | 24 => 40 | 25 => 93 | 3 => 3 | 39 => 155 | 0 => 0 | 53 => 201 | 55 => 203 | 4 => 4 | 46 => 195 | 45 => 194 | 50 => 185 | 5 => 5 | 9 => 9 | 66 => 227 | 70 => 159 | 76 => 250 | 77 => 121 | n => n, fun | n => n⟩
theorem Tryz.sortCut : Go.Proofs.SlLaysF0.n6 Tryz.prog Tryz.sortCut_ren := {
 mixed := by kernel_rfl
 f6 := ⟨Tryz.f59.name, by decide, Tryz.func59.trans (congrArg some (by kernel_rfl))⟩
 f14 := ⟨Tryz.f112.name, by decide, Tryz.func112.trans (congrArg some (by kernel_rfl))⟩
 f15 := Tryz.func113.trans (congrArg some (by kernel_rfl))
 f20 := ⟨Tryz.f164.name, by decide, Tryz.func164.trans (congrArg some (by kernel_rfl))⟩
 f21 := ⟨Tryz.f165.name, by decide, Tryz.func165.trans (congrArg some (by kernel_rfl))⟩
 f22 := ⟨Tryz.f166.name, by decide, Tryz.func166.trans (congrArg some (by kernel_rfl))⟩
 f23 := ⟨Tryz.f167.name, by decide, Tryz.func167.trans (congrArg some (by kernel_rfl))⟩
 f24 := ⟨Tryz.f168.name, by decide, Tryz.func168.trans (congrArg some (by kernel_rfl))⟩
 f25 := ⟨Tryz.f169.name, by decide, Tryz.func169.trans (congrArg some (by kernel_rfl))⟩
 f26 := ⟨Tryz.f170.name, by decide, Tryz.func170.trans (congrArg some (by kernel_rfl))⟩
 f27 := ⟨Tryz.f171.name, by decide, Tryz.func171.trans (congrArg some (by kernel_rfl))⟩
 f28 := Tryz.func172.trans (congrArg some (by kernel_rfl))
 f29 := Tryz.func173.trans (congrArg some (by kernel_rfl))
 f46 := ⟨Tryz.f213.name, by decide, Tryz.func213.trans (congrArg some (by kernel_rfl))⟩
 f47 := Tryz.func214.trans (congrArg some (by kernel_rfl))
 f48 := Tryz.func215.trans (congrArg some (by kernel_rfl))
 f49 := ⟨Tryz.f216.name, by decide, Tryz.func216.trans (congrArg some (by kernel_rfl))⟩
 f50 := ⟨Tryz.f217.name, by decide, Tryz.func217.trans (congrArg some (by kernel_rfl))⟩
 f57 := ⟨Tryz.f243.name, by decide, Tryz.func243.trans (congrArg some (by kernel_rfl))⟩
 t0 := Tryz.underlying0
 a0 := Tryz.isAgg0
 z0 := Tryz.sizeOf0
 v0 := Tryz.zeroValue0
 t3 := Tryz.underlying3
 a3 := Tryz.isAgg3
 z3 := Tryz.sizeOf3
 v3 := Tryz.zeroValue3
 t4 := Tryz.underlying4
 a4 := Tryz.isAgg4
 z4 := Tryz.sizeOf4
 v4 := Tryz.zeroValue4
 t5 := Tryz.underlying5
 a5 := Tryz.isAgg5
 z5 := Tryz.sizeOf5
 v5 := Tryz.zeroValue5
 t9 := Tryz.underlying9
 a9 := Tryz.isAgg9
 z9 := Tryz.sizeOf9
 v9 := Tryz.zeroValue9
 t22 := Tryz.underlying91
 a22 := Tryz.isAgg91
 z22 := Tryz.sizeOf91
 v22 := Tryz.zeroValue91
 t25 := Tryz.underlying93
 a25 := Tryz.isAgg93
 z25 := Tryz.sizeOf93
 v25 := Tryz.zeroValue93
 t39 := Tryz.underlying155
 a39 := Tryz.isAgg155
 z39 := Tryz.sizeOf155
 v39 := Tryz.zeroValue155
 t45 := Tryz.underlying194
 a45 := Tryz.isAgg194
 z45 := Tryz.sizeOf194
 v45 := Tryz.zeroValue194
 t46 := Tryz.underlying195
 a46 := Tryz.isAgg195
 z46 := Tryz.sizeOf195
 v46 := Tryz.zeroValue195
 t50 := Tryz.underlying185
 a50 := Tryz.isAgg185
 z50 := Tryz.sizeOf185
 v50 := Tryz.zeroValue185
 t53 := Tryz.underlying201
 a53 := Tryz.isAgg201
 z53 := Tryz.sizeOf201
 v53 := Tryz.zeroValue201
 t55 := Tryz.underlying203
 a55 := Tryz.isAgg203
 z55 := Tryz.sizeOf203
 v55 := Tryz.zeroValue203
 t66 := Tryz.underlying227
 a66 := Tryz.isAgg227
 z66 := Tryz.sizeOf227
 v66 := Tryz.zeroValue227
 t70 := Tryz.underlying159
 a70 := Tryz.isAgg159
 z70 := Tryz.sizeOf159
 v70 := Tryz.zeroValue159
 t76 := Tryz.underlying250
 a76 := Tryz.isAgg250
 z76 := Tryz.sizeOf250
 v76 := Tryz.zeroValue250
 t77 := Tryz.underlying121
 a77 := Tryz.isAgg121
 z77 := Tryz.sizeOf121
 v77 := Tryz.zeroValue121 }
end Go.Proofs

namespace Go.Te
open Go Go.Sx Go.Proofs Go.Ar Go.RowKit Go.Shelf
set_option maxRecDepth 100000
theorem MU : jH Tryz.prog 3 60 je Ps where
 pos := by decide
 ent := enters_of Tryz.func60 (by kernel_rfl) rfl
 call := fun r s hr hs => by
  unfold je at hr hs
  rw [Bool.and_eq_true] at hr hs
  have ar : ZH Sz (.agg 3 r) = true := hr.1
  have a2 : ZH Sz (.agg 3 s) = true := hs.1
  exact weaken (ys := [_, _]) ⟨zH ar, zH a2, trivial⟩ (RL _ _ hr.2 hs.2)
 swo := fun els f => by
  refine ⟨fun x => ?_, fun x y z h1 h2 => ?_, fun x y z h1 h2 => ?_⟩ <;>
   simp only [ltOf, Ps, decide_eq_true_eq, decide_eq_false_iff_not, x5] at *
  ·omega
  ·omega
  ·omega
theorem nL (G : List (Nat × Obj)) : Sl Tryz.prog G 59 N5 :=
 mV Tryz.sortCut (enters_of Tryz.func59 (by kernel_rfl) rfl) Tryz.isAgg40 Tryz.sizeOf40 MU G
theorem oL {G : List (Nat × Obj)} (hG : zM G) : zY Tryz.prog (fO G) := by
 have h := zY.plus (zY.plus (zY.plus (zY.plus (zr (P := Tryz.prog) (objs := G)) (zQ.mono PM)) (Jz hG)) (zQ.mono W0)) (PP hG)
 refine ⟨fun f t e => ?_, h.pu, h.fre⟩
 have e' : (bif Nat.beq f 59 then some N5 else none) = some t := e
 rcases xS f 59 with ⟨hb, hf⟩ | ⟨hb, hf⟩
 ·rw [hb] at e'
  cases e'
  rw [hf]
  exact nL _
 ·rw [hb] at e'
  cases e'
theorem Gh {G : List (Nat × Obj)} (hG : zM G) (l : List Row) (s q : Int) (a : zh) (hl : a.length ≤ 4294967280) : zS Tryz.prog G 17 [Zp l, .i s, .i q, .str a] (.tup 2 (zT [yx (uA l s q a), .i (wN l s q a)])) :=
 zV (an := H1 l s q a) mixed (oL hG) (Eq.mp (by kernel_rfl) (HM G l s q a hl))
def Jg : List AV → Option (List zN × AV)
 | [x, .v (.int .i64 s), .v (.int .i64 q), .str a] => some ([.b (za Row x), .p (a.length ≤ 4294967280)], .tup 2 (zT [yx (uA (rowsOf x) s q a), .i (wN (rowsOf x) s q a)]))
 | _ => none
theorem Gm {G : List (Nat × Obj)} (hG : zM G) : zQ Tryz.prog G 17 Jg := by
 intro xs ps r h hp
 unfold Jg at h
 split at h
 ·rename_i x s q a
  cases h
  obtain ⟨q0, q1, -⟩ := Zx hp
  exact weaken (ys := [_, _, _, _]) ⟨zi q0, zX _, zX _, zX _, trivial⟩ (Gh hG _ s q a q1)
 ·cases h
end Go.Te

namespace Go.Te
open Go Go.Sx Go.Proofs Go.Ar Go.RowKit
set_option maxRecDepth 100000
set_option maxHeartbeats 4000000
end Go.Te

namespace Go.Te
open Go Go.Sx Go.Proofs Go.Ar Go.RowKit
set_option maxRecDepth 100000
set_option maxHeartbeats 4000000
def iD (a b : List Int) : yW :=
 .two .auto (.two .auto (.two (.two .auto (.one (.loop Nat (fun σ z => [(0, σ.tm 0), (1, σ.tm 1), (12, σ.tm 12), (13, .i z)]) (fun σ z => []) 0 (fun σ z => z ≤ a.length ∧ ∀ i, i < z → a.getD i 0 = b.getD i 0) (fun σ z => a.length - z) .auto))) .auto))
def lX : List AV → Option (List zN × AV)
 | [x_a, x_b] => some ([.b (za Int x_a), .b (za Int x_b)], .b ((zv x_a) == (zv x_b)))
 | _ => none
theorem I0 (a : List Int) (b : List Int) :
 let q1 := (xI a); let q2 := (xI b); let q3 := (kI ∧ (lZ a) = (lZ a)); zB [xI a, xI b] → zZ ((lZ a) != (lZ b)) (false = (a == b)) ((∃ (z : Nat), ((z ≤ lN a ∧ ∀ (i :
 Nat), i < z → gD a i iZ = gD b i iZ) ∧ zc q1 q1 ∧ zc q2 q2 ∧ q3 ∧ kI ∧ iZ = (cI z)) ∧ True) ∧ ∀ (z : Nat), (z ≤ lN a ∧ ∀ (i : Nat), i < z → gD a i iZ = gD b i iZ) → zZ (zn (cI z) (lZ a)) (bF (DB.db (iZ ≤ (cI z) ∧ (cI z) < (lZ a))) (bF (DB.db (iZ ≤ (cI z) ∧ (cI z) < (lZ b))) (zZ (gD a (Int.toNat (cI z)) zp.dflt != gD b (Int.toNat (cI z)) zp.dflt) (false = (a == b)) (zZ
 (dK ((cI z) + iO)) (∃ (z' : Nat), (((z' ≤ lN a ∧ ∀ (i : Nat), i < z' → gD a i iZ = gD b i iZ) ∧ lN a - z' < lN a - z) ∧ zc q1 q1 ∧ zc q2 q2 ∧ q3 ∧ kI ∧ (cI z) + iO = (cI z')) ∧ True) False)))) (true = (a == b))) := by
 delta bF dK xI cI kI lZ lN gD iZ iO
 dsimp only
 intro hb
 have e0 : (zp.dflt : Int) = 0 := rfl
 simp only [sS, ZN, Zr, ZS, ZY, YJ, yn, W9, Yd, vN, YA, vk, Yb, YC, yM, e0]
 refine ⟨fun h => (beq_eq_false_iff_ne.2 fun e => h (by rw [e])).symm, fun h => ⟨⟨0, ⟨Nat.zero_le _, fun i hi => absurd hi (Nat.not_lt_zero _)⟩, rfl⟩, fun z ⟨z1, z2⟩ => ⟨fun hz => ⟨⟨by omega, hz⟩, ⟨by omega, by omega⟩, fun h3 => (beq_eq_false_iff_ne.2 fun e => h3 (by rw [e])).symm, fun h3 => ⟨?_, z + 1, ⟨⟨by omega, fun i hi => ?_⟩, by omega⟩, by omega⟩⟩, fun hz => ?_⟩⟩⟩
 ·have h4 : a.length ≤ 9223372036854775807 := hb.1.1
  simp only [YZ]; omega
 ·by_cases e : i = z
  ·rw [e]; exact h3
  ·exact z2 i (by omega)
 ·refine (beq_iff_eq.2 (List.ext_getElem (by omega) fun i h1 h2 => ?_)).symm
  have := z2 i (by omega)
  rw [List.getD_eq_getElem?_getD, List.getD_eq_getElem?_getD, List.getElem?_eq_getElem h1, List.getElem?_eq_getElem h2] at this
  exact this
theorem I8 (a : List Int) (b : List Int) : zS Tryz.prog [] 39 [Zp a, Zp b] (.b (a == b)) :=
 zV (T := T0) (an := iD a b) mixed zr (Eq.mp (by kernel_rfl) (I0 a b))
theorem gv : zQ Tryz.prog [] 39 lX := by
 intro xs ps r h hp
 unfold lX at h
 split at h
 ·skip
  rename_i x_a x_b
  cases h
  obtain ⟨q0, q1, -⟩ := Zx hp
  exact weaken (ys := [Zp (zv x_a), Zp (zv x_b)]) ⟨zi q0, zi q1, trivial⟩ (I8 (zv x_a) (zv x_b))
 ·cases h
theorem Gx (f : Bool) (l : List Mb) : xC (AV.xl f 11 l.length fun i j => zp.enc (l.getD i m0) j) = l := XB f l 11
theorem GK (f : Bool) (l : List Mb) : za Mb (AV.xl f 11 l.length fun i j => zp.enc (l.getD i m0) j) = true := WC f l
end Go.Te
