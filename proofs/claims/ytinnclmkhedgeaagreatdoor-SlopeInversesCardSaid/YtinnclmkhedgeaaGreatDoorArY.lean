/- What slope computes of two pitches, as fractions. -/
import Derived.Test.YtinnclmkhedgeaaGreatDoorArW
set_option linter.unusedSimpArgs false
set_option linter.unusedVariables false
namespace Go.Ar
open Go Go.Sx Go.Lib
set_option maxRecDepth 100000
def VZ : zK := [49]
theorem Z2 : VZ = zX ((1 : Nat) : Int) 1 := by rw [Z7, y8, zg (by decide)]; rfl
def Ri (p : zK) : zK := zH p p
def xu (p : zK) : zK := z8 VZ (Ri p)
def T4 (p q : zK) : zK := z8 (zh VZ (Ri p)) (zh VZ (Ri q))
def Wm (p q : zK) : zK := zh VZ (T4 p q)
def WK (p q : zK) : zK := z8 VZ (T4 p q)
def Wi (p q : zK) : zK := zh VZ (zH (xu p) (xu q))
section
variable {N D M E : Nat}
theorem tZ (hD : 0 < D) : Ri (zX (N : Int) D) = zX ((N * N : Nat) : Int) (D * D) := by
 unfold Ri
 rw [Z8 hD hD, Int.natCast_mul]
theorem XQ (hD : 0 < D) : xu (zX (N : Int) D) = zX ((D * D + N * N : Nat) : Int) (D * D) := by
 unfold xu
 rw [tZ hD, Z2, XK (by omega) (Nat.mul_pos hD hD), Nat.one_mul]
 congr 1
 push_cast
 omega
theorem U1 (hN : 0 < N) (hD : 0 < D) : zh VZ (Ri (zX (N : Int) D)) = zX ((D * D : Nat) : Int) (N * N) := by
 rw [tZ hD, Z2, YQ (by omega) (Nat.mul_pos hD hD) (Nat.mul_pos hN hN), Nat.one_mul]
 congr 1
 push_cast
 omega
theorem Vn (hN : 0 < N) (hD : 0 < D) (hM : 0 < M) (hE : 0 < E) : T4 (zX (N : Int) D) (zX (M : Int) E) = zX ((D * D * (M * M) + E * E * (N * N) : Nat) : Int) (N * N * (M * M)) := by
 unfold T4
 rw [U1 hN hD, U1 hM hE, XK (Nat.mul_pos hN hN) (Nat.mul_pos hM hM)]
 congr 1
theorem qO (hN : 0 < N) (hD : 0 < D) (hM : 0 < M) (hE : 0 < E) : Wm (zX (N : Int) D) (zX (M : Int) E) = zX ((N * M * (N * M) : Nat) : Int) (D * D * (M * M) + E * E * (N * N)) := by
 unfold Wm
 rw [Vn hN hD hM hE, Z2, YQ (by omega) (Nat.mul_pos (Nat.mul_pos hN hN) (Nat.mul_pos hM hM)) (Nat.add_pos_left (Nat.mul_pos (Nat.mul_pos hD hD) (Nat.mul_pos hM hM)) _), Nat.one_mul]
 congr 1
 rw [show N * M * (N * M) = N * N * (M * M) by grind]
 push_cast
 omega
theorem R0 (hN : 0 < N) (hD : 0 < D) (hM : 0 < M) (hE : 0 < E) : WK (zX (N : Int) D) (zX (M : Int) E) = zX ((N * M * (N * M) + (D * D * (M * M) + E * E * (N * N)) : Nat) : Int) (N * M * (N * M)) := by
 unfold WK
 rw [Vn hN hD hM hE, Z2, XK (by omega) (Nat.mul_pos (Nat.mul_pos hN hN) (Nat.mul_pos hM hM)), Nat.one_mul]
 rw [show N * M * (N * M) = N * N * (M * M) by grind]
 congr 1
 push_cast
 omega
theorem Rh (hD : 0 < D) (hE : 0 < E) : Wi (zX (N : Int) D) (zX (M : Int) E) = zX ((D * E * (D * E) : Nat) : Int) ((D * D + N * N) * (E * E + M * M)) := by
 unfold Wi
 have h1 : 0 < D * D + N * N := Nat.add_pos_left (Nat.mul_pos hD hD) _
 have h2 : 0 < E * E + M * M := Nat.add_pos_left (Nat.mul_pos hE hE) _
 rw [XQ hD, XQ hE, Z8 (Nat.mul_pos hD hD) (Nat.mul_pos hE hE), ← Int.natCast_mul, Z2, YQ (by omega) (Nat.mul_pos (Nat.mul_pos hD hD) (Nat.mul_pos hE hE)) (Nat.mul_pos h1 h2), Nat.one_mul]
 congr 1
 rw [show D * E * (D * E) = D * D * (E * E) by grind]
 push_cast
 omega
end
end Go.Ar
