/- What slope computes of two pitches, as fractions. -/
import Derived.Test.YtinnclmkhedgeaaGreatDoorArW
set_option linter.unusedSimpArgs false
set_option linter.unusedVariables false
namespace Go.Ar
open Go Go.Sx Go.Lib
set_option maxRecDepth 100000
def V3 : zL := [49]
theorem yP : V3 = zt ((1 : Nat) : Int) 1 := by rw [W6, y6, zH (by decide)]; rfl
def sw (p : zL) : zL := z7 p p
def xX (p : zL) : zL := za V3 (sw p)
def Vm (p q : zL) : zL := za (zh V3 (sw p)) (zh V3 (sw q))
def Yd (p q : zL) : zL := zh V3 (Vm p q)
def YD (p q : zL) : zL := za V3 (Vm p q)
def Yc (p q : zL) : zL := zh V3 (z7 (xX p) (xX q))
section
variable {N D M E : Nat}
theorem U2 (hD : 0 < D) : sw (zt (N : Int) D) = zt ((N * N : Nat) : Int) (D * D) := by
 unfold sw
 rw [Yq hD hD, Int.natCast_mul]
theorem XW (hD : 0 < D) : xX (zt (N : Int) D) = zt ((D * D + N * N : Nat) : Int) (D * D) := by
 unfold xX
 rw [U2 hD, yP, Xd (by omega) (Nat.mul_pos hD hD), Nat.one_mul]
 congr 1
 push_cast
 omega
theorem tt (hN : 0 < N) (hD : 0 < D) : zh V3 (sw (zt (N : Int) D)) = zt ((D * D : Nat) : Int) (N * N) := by
 rw [U2 hD, yP, Yv (by omega) (Nat.mul_pos hD hD) (Nat.mul_pos hN hN), Nat.one_mul]
 congr 1
 push_cast
 omega
theorem Vi (hN : 0 < N) (hD : 0 < D) (hM : 0 < M) (hE : 0 < E) : Vm (zt (N : Int) D) (zt (M : Int) E) = zt ((D * D * (M * M) + E * E * (N * N) : Nat) : Int) (N * N * (M * M)) := by
 unfold Vm
 rw [tt hN hD, tt hM hE, Xd (Nat.mul_pos hN hN) (Nat.mul_pos hM hM)]
 congr 1
theorem qX (hN : 0 < N) (hD : 0 < D) (hM : 0 < M) (hE : 0 < E) : Yd (zt (N : Int) D) (zt (M : Int) E) = zt ((N * M * (N * M) : Nat) : Int) (D * D * (M * M) + E * E * (N * N)) := by
 unfold Yd
 rw [Vi hN hD hM hE, yP, Yv (by omega) (Nat.mul_pos (Nat.mul_pos hN hN) (Nat.mul_pos hM hM)) (Nat.add_pos_left (Nat.mul_pos (Nat.mul_pos hD hD) (Nat.mul_pos hM hM)) _), Nat.one_mul]
 congr 1
 rw [show N * M * (N * M) = N * N * (M * M) by grind]
 push_cast
 omega
theorem RP (hN : 0 < N) (hD : 0 < D) (hM : 0 < M) (hE : 0 < E) : YD (zt (N : Int) D) (zt (M : Int) E) = zt ((N * M * (N * M) + (D * D * (M * M) + E * E * (N * N)) : Nat) : Int) (N * M * (N * M)) := by
 unfold YD
 rw [Vi hN hD hM hE, yP, Xd (by omega) (Nat.mul_pos (Nat.mul_pos hN hN) (Nat.mul_pos hM hM)), Nat.one_mul]
 rw [show N * M * (N * M) = N * N * (M * M) by grind]
 congr 1
 push_cast
 omega
theorem qW (hD : 0 < D) (hE : 0 < E) : Yc (zt (N : Int) D) (zt (M : Int) E) = zt ((D * E * (D * E) : Nat) : Int) ((D * D + N * N) * (E * E + M * M)) := by
 unfold Yc
 have h1 : 0 < D * D + N * N := Nat.add_pos_left (Nat.mul_pos hD hD) _
 have h2 : 0 < E * E + M * M := Nat.add_pos_left (Nat.mul_pos hE hE) _
 rw [XW hD, XW hE, Yq (Nat.mul_pos hD hD) (Nat.mul_pos hE hE), ← Int.natCast_mul, yP, Yv (by omega) (Nat.mul_pos (Nat.mul_pos hD hD) (Nat.mul_pos hE hE)) (Nat.mul_pos h1 h2), Nat.one_mul]
 congr 1
 rw [show D * E * (D * E) = D * D * (E * E) by grind]
 push_cast
 omega
end
theorem vt (p q : zL) : Vm p q = Vm q p := by
 unfold Vm za
 rw [Int.add_comm, Nat.mul_comm]
theorem TQ (p q : zL) : Yc p q = Yc q p := by
 unfold Yc z7
 rw [Int.mul_comm, Nat.mul_comm]
theorem sZ (p q : zL) : Yd p q = Yd q p := by unfold Yd; rw [vt]
theorem Ti (p q : zL) : YD p q = YD q p := by unfold YD; rw [vt]
end Go.Ar
