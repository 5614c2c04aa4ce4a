/- What slope computes of two pitches, as fractions. -/
import Derived.Test.YtinnclmkhedgeaaGreatDoorArW
set_option linter.unusedSimpArgs false
set_option linter.unusedVariables false
namespace Go.Ar
open Go Go.Sx Go.Lib
set_option maxRecDepth 100000
def uZ : zK := [49]
theorem Zh : uZ = zY ((1 : Nat) : Int) 1 := by rw [Ze, YQ, zg (by decide)]; rfl
def SA (p : zK) : zK := zM p p
def yc (p : zK) : zK := z7 uZ (SA p)
def Su (p q : zK) : zK := z7 (zI uZ (SA p)) (zI uZ (SA q))
def Xp (p q : zK) : zK := zI uZ (Su p q)
def Xs (p q : zK) : zK := z7 uZ (Su p q)
def Xq (p q : zK) : zK := zI uZ (zM (yc p) (yc q))
section
variable {N D M E : Nat}
theorem tt (hD : 0 < D) : SA (zY (N : Int) D) = zY ((N * N : Nat) : Int) (D * D) := by
 unfold SA
 rw [ZD hD hD, Int.natCast_mul]
theorem Y2 (hD : 0 < D) : yc (zY (N : Int) D) = zY ((D * D + N * N : Nat) : Int) (D * D) := by
 unfold yc
 rw [tt hD, Zh, x6 (by omega) (Nat.mul_pos hD hD), Nat.one_mul]
 congr 1
 push_cast
 omega
theorem TQ (hN : 0 < N) (hD : 0 < D) : zI uZ (SA (zY (N : Int) D)) = zY ((D * D : Nat) : Int) (N * N) := by
 rw [tt hD, Zh, Yz (by omega) (Nat.mul_pos hD hD) (Nat.mul_pos hN hN), Nat.one_mul]
 congr 1
 push_cast
 omega
theorem uB (hN : 0 < N) (hD : 0 < D) (hM : 0 < M) (hE : 0 < E) : Su (zY (N : Int) D) (zY (M : Int) E) = zY ((D * D * (M * M) + E * E * (N * N) : Nat) : Int) (N * N * (M * M)) := by
 unfold Su
 rw [TQ hN hD, TQ hM hE, x6 (Nat.mul_pos hN hN) (Nat.mul_pos hM hM)]
 congr 1
theorem TA (hN : 0 < N) (hD : 0 < D) (hM : 0 < M) (hE : 0 < E) : Xp (zY (N : Int) D) (zY (M : Int) E) = zY ((N * M * (N * M) : Nat) : Int) (D * D * (M * M) + E * E * (N * N)) := by
 unfold Xp
 rw [uB hN hD hM hE, Zh, Yz (by omega) (Nat.mul_pos (Nat.mul_pos hN hN) (Nat.mul_pos hM hM)) (Nat.add_pos_left (Nat.mul_pos (Nat.mul_pos hD hD) (Nat.mul_pos hM hM)) _), Nat.one_mul]
 congr 1
 rw [show N * M * (N * M) = N * N * (M * M) by grind]
 push_cast
 omega
theorem T7 (hN : 0 < N) (hD : 0 < D) (hM : 0 < M) (hE : 0 < E) : Xs (zY (N : Int) D) (zY (M : Int) E) = zY ((N * M * (N * M) + (D * D * (M * M) + E * E * (N * N)) : Nat) : Int) (N * M * (N * M)) := by
 unfold Xs
 rw [uB hN hD hM hE, Zh, x6 (by omega) (Nat.mul_pos (Nat.mul_pos hN hN) (Nat.mul_pos hM hM)), Nat.one_mul]
 rw [show N * M * (N * M) = N * N * (M * M) by grind]
 congr 1
 push_cast
 omega
theorem sQ (hD : 0 < D) (hE : 0 < E) : Xq (zY (N : Int) D) (zY (M : Int) E) = zY ((D * E * (D * E) : Nat) : Int) ((D * D + N * N) * (E * E + M * M)) := by
 unfold Xq
 have h1 : 0 < D * D + N * N := Nat.add_pos_left (Nat.mul_pos hD hD) _
 have h2 : 0 < E * E + M * M := Nat.add_pos_left (Nat.mul_pos hE hE) _
 rw [Y2 hD, Y2 hE, ZD (Nat.mul_pos hD hD) (Nat.mul_pos hE hE), ← Int.natCast_mul, Zh, Yz (by omega) (Nat.mul_pos (Nat.mul_pos hD hD) (Nat.mul_pos hE hE)) (Nat.mul_pos h1 h2), Nat.one_mul]
 congr 1
 rw [show D * E * (D * E) = D * D * (E * E) by grind]
 push_cast
 omega
end
end Go.Ar
