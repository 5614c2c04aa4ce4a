/- integer: Check, small; what they use of strings and strconv. -/
import Derived.Test.YtdkpceodckdcfaaGreatDoorTeJ
import Derived.Test.YtdkpceodckdcfaaGreatDoorArO
import Derived.Test.YtdkpceodckdcfaaGreatDoorSxS
set_option linter.unusedSimpArgs false
set_option linter.unusedVariables false
namespace Go.Te
open Go Go.Sx Go.Proofs Go.Ar Go.RowKit
set_option maxRecDepth 100000
set_option maxHeartbeats 4000000
theorem UR {c : UInt8} (h : zC c = true) : Lib.digitVal c = some (wa c) := by
 have key : ∀ n : Fin 256, zC (UInt8.ofNat n.val) = true → Lib.digitVal (UInt8.ofNat n.val) = some (wa (UInt8.ofNat n.val)) := by decide +kernel
 have := key ⟨c.toNat, c.toNat_lt⟩
 simp only [UInt8.ofNat_toNat] at this
 exact this h
theorem vT : ∀ {l : zp} (a : Nat), (∀ c ∈ l, zC c = true) → Lib.decFrom a l = some (a * 10 ^ l.length + zP l)
 | [], a, _ => by simp [Lib.decFrom, zP]
 | c :: r, a, h => by
  unfold Lib.decFrom
  rw [UR (h c List.mem_cons_self)]
  simp only
  rw [vT _ fun x hx => h x (List.mem_cons_of_mem _ hx), Xx, List.length_cons, Nat.pow_succ, Nat.add_mul]
  congr 1
  rw [Nat.mul_assoc, Nat.mul_comm 10, Nat.add_assoc]
theorem v6 {l : zp} (h : ZH l = true) : Lib.decNat l = some (zP l) := by
 obtain ⟨h1, h2, _⟩ := Zv.1 h
 unfold Lib.decNat
 rw [show l.isEmpty = false by cases l with | nil => cases h1 | cons c r => rfl]
 simp only [Bool.false_eq_true, if_false]
 rw [vT 0 h2, Nat.zero_mul, Nat.zero_add]
theorem SQ {s : zp} (h : V8 s = true) : Lib.atoi s = some (Uy s) := by
 rcases tu h with ⟨r, rfl, h1, _, h3⟩ | ⟨h1, h3⟩
 ·rw [h3]
  show (Lib.decNat r).map (fun (m : Nat) => -(m : Int)) = _
  rw [v6 h1]; rfl
 ·rw [h3]
  obtain ⟨h4, h5, _⟩ := Zv.1 h1
  match s, h4, h5, h1 with
  | c :: r, _, h5, h1 =>
   have hc := yd.1 (h5 c List.mem_cons_self)
   show (if c == 45 then _ else if c == 43 then _ else (Lib.decNat (c :: r)).map fun (m : Nat) => (m : Int)) = _
   rw [if_neg (by rw [beq_iff_eq]; intro e; subst e; exact absurd hc.1 (by decide)), if_neg (by rw [beq_iff_eq]; intro e; subst e; exact absurd hc.1 (by decide)), v6 h1]; rfl
end Go.Te
