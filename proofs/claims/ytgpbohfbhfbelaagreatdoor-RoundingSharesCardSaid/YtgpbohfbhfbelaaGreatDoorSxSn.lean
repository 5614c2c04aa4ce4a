/- slices.SortFunc over own slices of structures: what it does. -/
import Derived.Test.YtgpbohfbhfbelaaGreatDoorSxU
set_option linter.unusedSimpArgs false
set_option linter.unusedVariables false
namespace Go.Sx
open Go Go.Proofs Go.RowKit
def rA (k F : Nat) (ok : (Nat → AV) → Bool) (ci : (Nat → AV) → (Nat → AV) → Int) (nb : Nat) (bl : Nat → OB) (xs : List AV) (K : Nat → (Nat → OB) → AV → Prop) : Prop :=
 match xs with
 | [.ns b 0 len, .fn (.func F') 0 _ 0 _] =>
  match bl b with
  | .arr t sz L els =>
   zZ (Nat.beq L len && Nat.beq sz k && Nat.blt b nb && Nat.beq F' F)
    ((len < 4611686018427387904 ∧ ∀ i, i < len → ok (els i) = true) ∧
     ∀ p : List Nat, (p.Perm (List.range len) ∧ p.Pairwise fun i j => ¬ ci (els j) (els i) < 0) →
      K nb (upd bl b (.arr t k len fun i j => els (p.getD i 0) j)) (.tup 0 fun _ => .junk)) False
  | _ => Ze b
 | _ => Ze xs
end Go.Sx
