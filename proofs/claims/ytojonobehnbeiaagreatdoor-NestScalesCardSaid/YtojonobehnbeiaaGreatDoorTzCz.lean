/- Sections, used bars. -/
import Derived.Test.YtojonobehnbeiaaGreatDoorTzX
set_option linter.unusedSimpArgs false
namespace Go.Tz
open Go Go.Sx Go.Proofs
set_option maxRecDepth 100000
set_option maxHeartbeats 2000000
def sectB (c : Cut) (b : Bar) : Bool := (c.w == b.w) && (c.d == b.d)
theorem sectA_vc (c : Cut) (b : Bar) :
 let q1 := (!bsel true (Cut.w c == Bar.w b) || bsel true (Cut.w c == Bar.w b)); bndL [AV.agg 4 (Enc.enc c), AV.agg 6 (Enc.enc b)] → bsplit q1 (bsplit q1 (bsplit q1 (bsplit q1 (bsplit (!Cut.w c == Bar.w b || bsel true (Cut.w c == Bar.w b)) ((bif Cut.w c == Bar.w b then Cut.d c == Bar.d b else false) = sectB c b) False) False) False) False) False := by
  dsimp only
  intro hb
  simp only [slX, slN, avM_refl, true_and, and_true, bsel_true, bsel_false, vc_own, bif_or, bif_and, vc_gdb, vc_db, vc_lt, vc_le, vc_ne, vc_eq, vc_tt, Int.toNat_natCast, Nat.zero_add, Nat.zero_le, Nat.sub_zero, agD_bar, agOk_bar, agD_bar', agOk_bar', agD_cut, agOk_cut, agD_cut', agOk_cut', agD_used, agOk_used, agD_used', agOk_used', int_i, Bool.or_true, cond_true, cond_false]
  rfl
def usedN (l : List Used) (k : Int) : Nat := l.countP fun u => u.bar == k
def sect_t : List AV → Option (List Cond × AV)
  | [x, y] => some ([.b (agOk Cut x), .b (agOk Bar y)], .b (sectB (agD x) (agD y)))
  | _ => none
theorem sectA_T : PureT Tryz.prog [] 80 sect_t := by
  intro xs ps r h hp
  unfold sect_t at h
  split at h
  · rename_i x y
    cases h
    exact weaken (ys := [_, _]) ⟨agE_sound (hp _ List.mem_cons_self), agE_sound (hp _ (List.mem_cons_of_mem _ List.mem_cons_self)), trivial⟩
      (pure_of_vc mixed tb0_sound (Eq.mp (by kernel_rfl) (sectA_vc (agD x) (agD y)) : vcFn Tryz.prog T0 80 .auto [agE (agD (α := Cut) x), agE (agD (α := Bar) y)] (.b (sectB (agD x) (agD y)))))
  · cases h
def usedOf (x : AV) : List Used := slD x
theorem deUo (f : Bool) (l : List Used) : usedOf (AV.xl f 3 l.length fun i j => Enc.enc (l.getD i ⟨0, [], []⟩) j) = l := slD_slE l
def boolsOf (x : AV) : List Bool := slD x
def barAt (bs : List Bar) (u : Used) : Bar := bs.getD u.bar.toNat ⟨0, 0, 0, 0, 0, []⟩
def usedAt (l : List Used) (i : Nat) : Used := l.getD i ⟨0, [], []⟩
end Go.Tz

/- What nest.Check and Cost both use. -/
namespace Go.Tz
open Go Go.Sx Go.Proofs
set_option maxRecDepth 100000
set_option maxHeartbeats 4000000
theorem okBf (n : Nat) (p : Nat → Bool) : slOk Bool (AV.xl false 1 n fun i j => AV.v (Value.bool (p i))) = true := by
  show (Nat.beq 1 1 && allN (fun i => isBool (AV.v (Value.bool (p i)))) n) = true
  rw [Bool.and_eq_true]
  exact ⟨rfl, allN_of fun i _ => rfl⟩
theorem deBf (n : Nat) (p : Nat → Bool) : boolsOf (AV.xl false 1 n fun i j => AV.v (Value.bool (p i))) = listOf n p := rfl
theorem used_succ {l : List Used} {z : Nat} (hz : z < l.length) (k : Int) : usedN (l.take (z + 1)) k = usedN (l.take z) k + if (usedAt l z).bar = k then 1 else 0 := by
  rw [take_snoc (d := ⟨0, [], []⟩) hz]
  unfold usedN
  rw [List.countP_append, List.countP_cons, List.countP_nil]
  simp [usedAt]
theorem used_le (l : List Used) (z : Nat) (k : Int) : usedN (l.take z) k ≤ l.length := Nat.le_trans List.countP_le_length (by simp; omega)
theorem start_bars {ps : List Cut} {bs : List Bar} {k : Int} (h : startE ps bs k = 0) : barsE bs = 0 ∧ cutsE ps = 0 := by
  unfold startE at h
  cases h1 : cutsE ps != 0 || barsE bs != 0 with
  | true => rw [h1] at h; cases h
  | false =>
    rw [Bool.or_eq_false_iff, bne_eq_false_iff_eq, bne_eq_false_iff_eq] at h1
    exact ⟨h1.2, h1.1⟩
theorem bars_len {bs : List Bar} (h : barsE bs = 0) : bs.length ≤ 64 := by
  unfold barsE at h
  cases h1 : Nat.blt 64 bs.length with
  | true => rw [h1] at h; cases h
  | false =>
    have : ¬ 64 < bs.length := fun hh => by rw [(blt_iff _ _).2 hh] at h1; cases h1
    omega
end Go.Tz
