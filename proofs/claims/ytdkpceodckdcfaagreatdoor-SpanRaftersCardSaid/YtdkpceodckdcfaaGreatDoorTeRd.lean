/- Sums, differences and products of small numbers: no limit is met, and what they are. -/
import Derived.Test.YtdkpceodckdcfaaGreatDoorTeRa
import Derived.Test.YtdkpceodckdcfaaGreatDoorTeJ
import Derived.ChangeArms
import Derived.Lib.LaidTab
import Derived.Test.YtdkpceodckdcfaaGreatDoorTeM
set_option linter.unusedSimpArgs false
set_option linter.unusedVariables false
namespace Go.Te
open Go Go.Sx Go.Proofs Go.Ar
set_option maxRecDepth 100000
def smK (k : Nat) (a : Str) : Prop := ratE a = 0 ∧ (ratN a).natAbs < 10 ^ k ∧ ratD a < 10 ^ k ∧ 0 < ratD a
theorem smK_len {a : Str} {k : Nat} (hr : ratE a = 0) (hl : a.length ≤ k) (hk : 0 < k) : smK k a := by
 obtain ⟨g1, g2, g3⟩ := form_iff.1 (rat_form hr)
 have l1 := cutN_len (ownS a)
 have l2 := cutD_len (ownS a)
 have l3 := ownS_len a
 refine ⟨hr, by rw [ratN_abs]; exact decV_bound g1 (by omega), ?_, ratD_pos (ratE_zero.1 hr).1⟩
 rw [(own_cut (a := a)).2]
 cases hs : slashB (ownS a) with
 | false =>
  show 1 < 10 ^ k
  exact Nat.one_lt_pow (by omega) (by omega)
 | true => exact decV_bound (g3 hs).1 (by omega)
theorem showQ_sm {n : Int} {d k : Nat} (hk : 0 < k) (hk3 : k ≤ 300) (hd : 0 < d) (hn : n.natAbs < 10 ^ k) (hd2 : d < 10 ^ k) : smK k (showQ n d) ∧ ratN (showQ n d) * (d : Int) = n * (ratD (showQ n d) : Int) ∧ (showQ n d).length ≤ 700 := by
 obtain ⟨p1, p2, p3, p4⟩ := showQ_parts n hd
 obtain ⟨q1, q2, _⟩ := gcd_div (n := n) hd
 have hg : 0 < Nat.gcd n.natAbs d := Nat.gcd_pos_of_pos_right _ hd
 have hnv : ((Nat.gcd n.natAbs d : Nat) : Int) ∣ n := Int.ofNat_dvd_left.2 (Nat.gcd_dvd_left _ _)
 have hn2 : (n / (Nat.gcd n.natAbs d : Int)).natAbs < 10 ^ k := by
  rw [← Int.tdiv_eq_ediv_of_dvd hnv]
  exact Nat.lt_of_le_of_lt (Int.natAbs_tdiv_le_natAbs n _) hn
 have hd3 : d / Nat.gcd n.natAbs d < 10 ^ k := Nat.lt_of_le_of_lt (Nat.div_le_self _ _) hd2
 obtain ⟨s1, s2, s3, s4, s5⟩ := showR_parts (n / (Nat.gcd n.natAbs d : Int)) q2
 have a1 : nDg (n / (Nat.gcd n.natAbs d : Int)) ≤ k := nDg_le hk hn2
 have a2 : Lib.nDigits (d / Nat.gcd n.natAbs d) ≤ k := (nDigits_le_iff hk).2 hd3
 have hE : ratE (showQ n d) = 0 := by
  refine ratE_zero.2 ⟨p1, ?_, ?_, p4⟩
  ·show lenD (cutN (showR _ _)) ≤ 300
   rw [s4]; omega
  ·show (cutD (showR _ _)).length ≤ 300
   rw [s5]; split <;> omega
 refine ⟨⟨hE, by rw [p2]; exact hn2, by rw [p3]; exact hd3, by rw [p3]; exact q2⟩, showQ_val n hd, ?_⟩
 show (showR _ _).length ≤ 700
 unfold showR
 rw [List.length_append, itoa_len]
 have b2 : (bif Nat.beq (d / Nat.gcd n.natAbs d) 1 then [] else 47 :: Lib.decDigits (d / Nat.gcd n.natAbs d)).length ≤ 301 := by
  cases Nat.beq (d / Nat.gcd n.natAbs d) 1 with
  | true => simp
  | false => rw [cond_false, List.length_cons, Lib.decDigits_length]; omega
 split <;> omega
theorem mul_lt_pow {a b j k : Nat} (ha : a < 10 ^ j) (hb : b < 10 ^ k) : a * b < 10 ^ (j + k) := by
 rw [Nat.pow_add]
 exact Nat.mul_lt_mul'' ha hb
theorem fr_sum {f : Int → Int → Int} (hf : ∀ u v, (f u v).natAbs ≤ u.natAbs + v.natAbs) {a b : Str} {j k : Nat} (hj : 0 < j) (hjk : j + k < 300) (ha : smK j a) (hb : smK k b) :
  frE f a b = 0 ∧ smK (j + k + 1) (frS f a b) ∧ frS f a b = showQ (f (ratN a * (ratD b : Int)) (ratN b * (ratD a : Int))) (ratD a * ratD b) := by
 obtain ⟨a1, a2, a3, a4⟩ := ha
 obtain ⟨b1, b2, b3, b4⟩ := hb
 have m1 : (ratN a * (ratD b : Int)).natAbs < 10 ^ (j + k) := by rw [Int.natAbs_mul, Int.natAbs_natCast]; exact mul_lt_pow a2 b3
 have m2 : (ratN b * (ratD a : Int)).natAbs < 10 ^ (j + k) := by rw [Int.natAbs_mul, Int.natAbs_natCast, Nat.mul_comm]; exact mul_lt_pow a3 b2
 have m3 : ratD a * ratD b < 10 ^ (j + k) := mul_lt_pow a3 b3
 have hN := hf (ratN a * (ratD b : Int)) (ratN b * (ratD a : Int))
 have m4 : (f (ratN a * (ratD b : Int)) (ratN b * (ratD a : Int))).natAbs < 10 ^ (j + k + 1) := by
  rw [Nat.pow_succ]; omega
 have m5 : ratD a * ratD b < 10 ^ (j + k + 1) := by rw [Nat.pow_succ]; omega
 have eN : frN f a b = f (ratN a * (ratD b : Int)) (ratN b * (ratD a : Int)) := rfl
 have e : frE f a b = 0 := by
  unfold frE rcE
  rw [a1, b1, (res_small (k := j + k) (by omega) (by omega) m1).2, (res_small (k := j + k) (by omega) (by omega) m2).2, eN, (res_small (k := j + k + 1) (by omega) (by omega) m4).2,
   (res_small (n := (ratD a : Int) * (ratD b : Int)) (k := j + k) (by omega) (by omega) (by rw [← Int.natCast_mul, Int.natAbs_natCast]; exact m3)).2]
  rfl
 have es : frS f a b = showQ (f (ratN a * (ratD b : Int)) (ratN b * (ratD a : Int))) (ratD a * ratD b) := by unfold frS; rw [e]; rfl
 refine ⟨e, ?_, es⟩
 rw [es]
 exact (showQ_sm (by omega) (by omega) (Nat.mul_pos a4 b4) m4 m5).1
theorem mu_prod {a b : Str} {j k : Nat} (hj : 0 < j) (hjk : j + k < 300) (ha : smK j a) (hb : smK k b) :
  muE a b = 0 ∧ smK (j + k) (muS a b) ∧ muS a b = showQ (ratN a * ratN b) (ratD a * ratD b) := by
 obtain ⟨a1, a2, a3, a4⟩ := ha
 obtain ⟨b1, b2, b3, b4⟩ := hb
 have m1 : (ratN a * ratN b).natAbs < 10 ^ (j + k) := by rw [Int.natAbs_mul]; exact mul_lt_pow a2 b2
 have m3 : ratD a * ratD b < 10 ^ (j + k) := mul_lt_pow a3 b3
 have e : muE a b = 0 := by
  unfold muE
  rw [a1, b1, (res_small (k := j + k) (by omega) (by omega) m1).2,
   (res_small (n := (ratD a : Int) * (ratD b : Int)) (k := j + k) (by omega) (by omega) (by rw [← Int.natCast_mul, Int.natAbs_natCast]; exact m3)).2]
  rfl
 have es : muS a b = showQ (ratN a * ratN b) (ratD a * ratD b) := by unfold muS; rw [e]; rfl
 refine ⟨e, ?_, es⟩
 rw [es]
 exact (showQ_sm (by omega) (by omega) (Nat.mul_pos a4 b4) m1 m3).1
theorem zero_rat : ratE [48] = 0 ∧ ratN [48] = 0 ∧ ratD [48] = 1 := by decide
theorem smK_zero {k : Nat} (hk : 0 < k) : smK k [48] := by
 obtain ⟨h1, h2, h3⟩ := zero_rat
 refine ⟨h1, by rw [h2]; exact Nat.pow_pos (by omega), by rw [h3]; exact Nat.one_lt_pow (by omega) (by omega), by rw [h3]; omega⟩
theorem add_zeroR {a : Str} {k : Nat} (hk : 0 < k) (hk2 : k < 299) (ha : smK k a) : frE (fun x y => x + y) a [48] = 0 ∧ frS (fun x y => x + y) a [48] = a := by
 obtain ⟨e, _, es⟩ := fr_sum (f := fun x y => x + y) (fun u v => by omega) (j := k) (k := 1) hk (by omega) ha (smK_zero (by omega))
 obtain ⟨h1, h2, h3⟩ := zero_rat
 refine ⟨e, ?_⟩
 rw [es, h2, h3, Nat.mul_one, Int.zero_mul, Int.add_zero]
 show showQ (ratN a * 1) (ratD a) = a
 rw [Int.mul_one]
 exact showQ_self ha.1
theorem add_zeroL {a : Str} {k : Nat} (hk : 0 < k) (hk2 : k < 299) (ha : smK k a) : frE (fun x y => x + y) [48] a = 0 ∧ frS (fun x y => x + y) [48] a = a := by
 obtain ⟨e, _, es⟩ := fr_sum (f := fun x y => x + y) (fun u v => by omega) (j := 1) (k := k) (by omega) (by omega) (smK_zero (by omega)) ha
 obtain ⟨h1, h2, h3⟩ := zero_rat
 refine ⟨e, ?_⟩
 rw [es, h2, h3, Nat.one_mul, Int.zero_mul, Int.zero_add]
 show showQ (ratN a * 1) (ratD a) = a
 rw [Int.mul_one]
 exact showQ_self ha.1
theorem mul_zz : muE [48] [48] = 0 ∧ muS [48] [48] = [48] := by
 obtain ⟨e, _, es⟩ := mu_prod (j := 1) (k := 1) (by omega) (by omega) (smK_zero (by omega)) (smK_zero (by omega))
 obtain ⟨h1, h2, h3⟩ := zero_rat
 refine ⟨e, ?_⟩
 rw [es, h2, h3]
 have := showQ_self h1
 rw [h2, h3] at this
 exact this
theorem own_rat {a : Str} (h : ratE a = 0) : ratE (ownS a) = 0 ∧ ratN (ownS a) = ((ratN a).natAbs : Int) ∧ ratD (ownS a) = ratD a ∧ ((ownS a).getD 0 0 == 45) = false := by
 obtain ⟨h1, h2, h3, h4⟩ := ratE_zero.1 h
 have hp := ratD_pos h1
 have e : a = showR (ratN a) (ratD a) := (showR_form h1).symm
 have eo : ownS a = showR ((ratN a).natAbs : Int) (ratD a) := by
  rcases Int.lt_or_le (ratN a) 0 with hn | hn
  ·have e1 : Lib.itoa (ratN a) = 45 :: Lib.decDigits (ratN a).natAbs := by
    have := Go.Ar.itoa_neg (n := (ratN a).natAbs) (by omega)
    rw [show -(((ratN a).natAbs : Nat) : Int) = ratN a by omega] at this
    exact this
   conv => lhs; rw [e]
   unfold showR
   rw [e1, Go.Ar.itoa_nat]
   rfl
  ·have e1 : ((ratN a).natAbs : Int) = ratN a := by omega
   rw [e1, ← e]
   have hm : minB a = false := by
    rw [e]
    unfold showR
    rw [← e1, Go.Ar.itoa_nat]
    have hd := (digS_iff.1 (decDigits_digS (ratN a).natAbs))
    match hq : Lib.decDigits (ratN a).natAbs, hd with
    | c :: r, hd =>
     have := isDg_iff.1 (hd.2.1 c List.mem_cons_self)
     exact beq_eq_false_iff_ne.2 fun e => by subst e; exact absurd this.1 (by decide)
   unfold ownS
   rw [hm]; rfl
 obtain ⟨s1, s2, s3, s4, s5⟩ := showR_parts ((ratN a).natAbs : Int) hp
 rw [eo]
 obtain ⟨t1, t2, t3, t4, t5⟩ := showR_parts (ratN a) hp
 rw [← e] at t4 t5
 refine ⟨ratE_zero.2 ⟨s1, ?_, by rw [s5, ← t5]; exact h3, by rw [s2, s3, Int.natAbs_natCast]; exact h4⟩, s2, s3, ?_⟩
 ·rw [s4]
  unfold nDg at t4 ⊢
  rw [Int.natAbs_natCast, ← t4]; exact h2
 ·unfold showR
  rw [Go.Ar.itoa_nat]
  have hd := (digS_iff.1 (decDigits_digS (ratN a).natAbs))
  match hq : Lib.decDigits (ratN a).natAbs, hd with
  | c :: r, hd =>
   have := isDg_iff.1 (hd.2.1 c List.mem_cons_self)
   exact beq_eq_false_iff_ne.2 fun e => by
    have e : c = 45 := e
    subst e; exact absurd this.1 (by decide)
theorem sq_cmp {v : Str} {k : Nat} (hk : 0 < k) (hk2 : k + k < 270) (hv : smK k v) {n : Int} (hn : 0 ≤ n ∧ n ≤ 1073741824) :
  rcE (muS v v) (Lib.itoa (n * n)) = 0 ∧ (ltB 0 (rcV (muS v v) (Lib.itoa (n * n))) = ltB (n * (ratD v : Int)) ((ratN v).natAbs : Int)) := by
 obtain ⟨e, hs, es⟩ := mu_prod hk (by omega) hv hv
 obtain ⟨v1, v2, v3, v4⟩ := hv
 obtain ⟨_, sval, _⟩ := showQ_sm (n := ratN v * ratN v) (d := ratD v * ratD v) (k := k + k) (by omega) (by omega) (Nat.mul_pos v4 v4) (by rw [Int.natAbs_mul]; exact mul_lt_pow v2 v2) (mul_lt_pow v3 v3)
 rw [← es] at sval
 generalize muS v v = S at hs sval
 obtain ⟨s1, s2, s3, s4⟩ := hs
 have nn : 0 ≤ n * n ∧ n * n ≤ 1152921504606846976 := by
  have h1 : n.natAbs * n.natAbs ≤ 1073741824 * 1073741824 := Nat.mul_le_mul (by omega) (by omega)
  have h2 : ((n.natAbs * n.natAbs : Nat) : Int) = n * n := Int.natAbs_mul_self
  have h3 : 0 ≤ n * n := Int.mul_nonneg hn.1 hn.1
  omega
 have hi := intE_itoa' (n * n)
 have ri : resE (n * n) = 0 := (res_small (n := n * n) (k := 20) (by omega) (by omega) (by omega)).2
 have iR : showR (n * n) 1 = Lib.itoa (n * n) := by unfold showR; show Lib.itoa (n * n) ++ [] = _; rw [List.append_nil]
 obtain ⟨p1, p2, p3, p4, p5⟩ := showR_parts (n * n) (d := 1) (by omega)
 rw [iR] at p1 p2 p3 p4 p5
 have iE : ratE (Lib.itoa (n * n)) = 0 := by
  refine ratE_zero.2 ⟨p1, ?_, by rw [p5]; simp, by rw [p3]; exact Nat.gcd_one_right _⟩
  rw [p4]
  have : nDg (n * n) ≤ 20 := nDg_le (by omega) (by omega)
  omega
 have r1 : resE (ratN S * ((1 : Nat) : Int)) = 0 := by
  rw [show ratN S * ((1 : Nat) : Int) = ratN S from Int.mul_one _]
  exact (res_small (k := k + k) (by omega) (by omega) s2).2
 have r2 : resE (n * n * (ratD S : Int)) = 0 := by
  refine (res_small (k := k + k + 20) (by omega) (by omega) ?_).2
  rw [Int.natAbs_mul, Int.natAbs_natCast, Nat.mul_comm]
  exact mul_lt_pow s3 (by omega)
 have eE : rcE S (Lib.itoa (n * n)) = 0 := by
  unfold rcE
  rw [s1, iE, p2, p3, r1, r2]; rfl
 refine ⟨eE, ?_⟩
 unfold rcV
 rw [eE, p2, p3]
 show ltB 0 (cmpI (ratN S * ((1 : Nat) : Int)) (n * n * (ratD S : Int))) = _
 rw [show ratN S * ((1 : Nat) : Int) = ratN S from Int.mul_one _]
 have key : n * n * (ratD S : Int) < ratN S ↔ n * (ratD v : Int) < ((ratN v).natAbs : Int) := by
  have dp : (0 : Int) < (ratD v : Int) := by omega
  have sp : (0 : Int) < (ratD S : Int) := by omega
  have dd : (0 : Int) < (ratD v : Int) * (ratD v : Int) := Int.mul_pos dp dp
  have ab : ((ratN v).natAbs : Int) * ((ratN v).natAbs : Int) = ratN v * ratN v := by rw [← Int.natCast_mul]; exact Int.natAbs_mul_self
  rw [Int.natCast_mul] at sval
  have c1 : n * n * (ratD S : Int) < ratN S ↔ n * n * ((ratD v : Int) * (ratD v : Int)) < ratN v * ratN v := by
   constructor
   ·intro h
    have h1 := Int.mul_lt_mul_of_pos_right h dd
    rw [sval, Int.mul_right_comm] at h1
    exact Int.lt_of_mul_lt_mul_right h1 (by omega)
   ·intro h
    have h1 := Int.mul_lt_mul_of_pos_right h sp
    rw [← sval, Int.mul_right_comm] at h1
    exact Int.lt_of_mul_lt_mul_right h1 (by omega)
  rw [c1, ← ab, show n * n * ((ratD v : Int) * (ratD v : Int)) = (n * (ratD v : Int)) * (n * (ratD v : Int)) from by rw [Int.mul_assoc, Int.mul_assoc, Int.mul_left_comm n (ratD v : Int)]]
  have x0 : 0 ≤ n * (ratD v : Int) := Int.mul_nonneg hn.1 (by omega)
  generalize n * (ratD v : Int) = x at *
  have y0 : (0 : Int) ≤ ((ratN v).natAbs : Int) := by omega
  generalize ((ratN v).natAbs : Int) = y at *
  constructor
  ·intro h
   refine Decidable.byContradiction fun hc => ?_
   have h1 : y * y ≤ y * x := Int.mul_le_mul_of_nonneg_left (by omega) y0
   have h2 : y * x ≤ x * x := Int.mul_le_mul_of_nonneg_right (by omega) x0
   omega
  ·intro h
   have h1 : x * x ≤ x * y := Int.mul_le_mul_of_nonneg_left (by omega) x0
   have h2 : x * y < y * y := Int.mul_lt_mul_of_pos_right h (by omega)
   omega
 unfold cmpI
 rw [Bool.eq_iff_iff, ltB_iff, ltB_iff, ← key]
 by_cases h1 : ratN S < n * n * (ratD S : Int)
 ·rw [(ltB_iff _ _).2 h1]; simp; omega
 ·rw [show ltB (ratN S) (n * n * (ratD S : Int)) = false from Bool.eq_false_iff.2 fun e => h1 ((ltB_iff _ _).1 e)]
  by_cases h2 : ratN S = n * n * (ratD S : Int)
  ·rw [h2, beq_self_eq_true]; simp
  ·rw [beq_eq_false_iff_ne.2 h2]; simp; omega
end Go.Te

namespace Go.Te
open Go Go.Sx Go.Proofs Go.Ar Go.RowKit
set_option maxRecDepth 100000
section
variable {H : Type} {enc : TypeId × Value → H} {W : World} {spare : Nat → Bool} {held : Bool}
theorem cells_at {base n : Nat} {A : Addr} {cs : List Value} (h : W.cells? base A n = some cs) : cs.length = n ∧ ∀ i, i < n → W.cell? (A.add i) = some (cs.getD i undef) := by
 unfold World.cells? at h
 split at h
 ·refine ⟨by simpa using Lib.mapM_length h, fun i hi => ?_⟩
  obtain ⟨b, hb, hf⟩ := Lib.mapM_at h i i (by simp [hi])
  rw [hf, List.getD_eq_getElem?_getD, hb, Option.getD_some]
 ·cases h
theorem cell_lt {A : Addr} {v : Value} (h : W.cell? A = some v) : A.block < W.heap.size := by
 rcases Nat.lt_or_ge A.block W.heap.size with h' | h'
 ·exact h'
 ·simp [World.cell?, Array.getElem?_eq_none h'] at h
theorem cellsInt : Tryz.prog.cellsOf 3 = 1 := by kernel_rfl
abbrev Old (W : World) : Nat → Prop := fun b => b < W.heap.size
def Tells {α : Type} [Enc α] (W : World) (a : α) (cs : List Value) : Prop :=
 ∀ j, j < Enc.n α → Rel W (Old W) rho0 (Enc.enc a j) (cs.getD j undef) ∧ (cs.getD j undef).oneCell' = true
theorem read_int {n : Nat} {cs : List Value} {x : DataW H × List MemPlace} (h : DataW.trod enc Tryz.prog W 0 spare held n 3 cs = some x) : ∃ m, cs = [.int .i64 m] ∧ inK .i64 m := by
 obtain ⟨m, h1, _, h3⟩ := DataW.trod_int Tryz.underlying3 h
 refine ⟨m, h1, ?_⟩
 simp only [Lit.wf, Bool.and_eq_true, decide_eq_true_eq] at h3
 exact h3
theorem read_slice {α : Type} [Enc α] {t e : TypeId} (hu : Tryz.prog.underlying t = some (.slice e)) (hn : Tryz.prog.cellsOf e = Enc.n α) {Good : α → Prop} (hd : Good Enc.dflt)
  (hel : ∀ {n : Nat} {cs : List Value} {x : DataW H × List MemPlace}, DataW.trod enc Tryz.prog W 0 spare held n e cs = some x → ∃ a : α, Tells W a cs ∧ Good a)
  {n : Nat} {cs : List Value} {x : DataW H × List MemPlace} (h : DataW.trod enc Tryz.prog W 0 spare held n t cs = some x) :
  ∃ (v : Value) (l : List α), cs = [v] ∧ v.oneCell' = true ∧ Rel W (Old W) rho0 (slE l) v ∧ ∀ j, Good (l.getD j Enc.dflt) := by
 rcases DataW.trod_slice hu h with ⟨h1, _⟩ | ⟨a, len, cap, elems, rest, m, _, h1, _, _, h2, h3, h4, h5, _, _⟩
 ·exact ⟨_, [], h1, rfl, .xl none 0 (fun _ _ => undef) (Nat.le_refl _) (Nat.zero_le _) (fun _ => rfl) (fun i j hi => absurd hi (Nat.not_lt_zero _)) (fun i j hi => absurd hi (Nat.not_lt_zero _)), fun j => by simpa using hd⟩
 ·rw [hn] at h5
  have key : ∀ i, ∃ u : α, (i < len → ∀ j, j < Enc.n α → ∃ c, W.cell? (a.add (i * Enc.n α + j)) = some c ∧ Rel W (Old W) rho0 (Enc.enc u j) c ∧ c.oneCell' = true) ∧ Good u := fun i => by
   by_cases hi : i < len
   ·have := h5 i hi
    rw [List.getElem?_eq_getElem (by omega)] at this
    obtain ⟨cs', hc, hd'⟩ := Option.bind_eq_some_iff.1 this
    obtain ⟨u, h6, h7⟩ := hel hd'
    refine ⟨u, fun _ j hj => ⟨cs'.getD j undef, ?_, h6 j hj⟩, h7⟩
    have := (cells_at hc).2 j hj
    rw [add_of_add] at this
    exact this
   ·exact ⟨Enc.dflt, fun h => absurd h hi, hd⟩
  obtain ⟨f, hf⟩ : ∃ f : Nat → α, ∀ i, (i < len → ∀ j, j < Enc.n α → ∃ c, W.cell? (a.add (i * Enc.n α + j)) = some c ∧ Rel W (Old W) rho0 (Enc.enc (f i) j) c ∧ c.oneCell' = true) ∧ Good (f i) :=
   ⟨fun i => Classical.choose (key i), fun i => Classical.choose_spec (key i)⟩
  have hg : ∀ i, i < len → (listOf len f).getD i Enc.dflt = f i := fun i hi => by simp [listOf, List.getD_eq_getElem?_getD, hi]
  have hlen : (listOf len f).length = len := by simp [listOf]
  refine ⟨_, listOf len f, h1, rfl, ?_, fun i => ?_⟩
  ·unfold slE
   rw [hlen]
   refine .xl (some a) cap (fun i j => (W.cell? (a.add (i * Enc.n α + j))).getD undef) h2 h3 (fun e => by cases e) (fun i j hi hj => ?_) (fun i j hi hj => ?_)
   ·obtain ⟨c, hc, _, ho⟩ := (hf i).1 hi j hj
    refine ⟨a, rfl, ?_, ?_, ?_⟩
    ·have := cell_lt hc
     rw [block_of_add] at this
     exact this
    ·show W.cell? (a.add (i * Enc.n α + j)) = some _
     rw [hc]; rfl
    ·rw [hc]; exact ho
   ·obtain ⟨c, hc, hr, _⟩ := (hf i).1 hi j hj
    rw [hg i hi, hc]
    exact hr
  ·by_cases hi : i < len
   ·rw [hg i hi]; exact (hf i).2
   ·rw [List.getD_eq_getElem?_getD, List.getElem?_eq_none (by omega)]
    exact hd
theorem cellsrow : Tryz.prog.cellsOf 38 = 5 := by kernel_rfl
theorem read_row {n : Nat} {cs : List Value} {x : DataW H × List MemPlace} (h : DataW.trod enc Tryz.prog W 0 spare held n 38 cs = some x) : ∃ g : Row, Tells W g cs ∧ True := by
 obtain ⟨xs, m, _, _, hl, hx, hf⟩ := DataW.trod_struct Tryz.underlying38 h
 rw [cellsrow] at hl
 match cs, hl with
 | [c0, c1, c2, c3, c4], _ =>
 have hx3 : xs.length = 5 := hx
 have g0 : DataW.trod enc Tryz.prog W 0 spare held m 3 (([c0, c1, c2, c3, c4].drop 0).take (Tryz.prog.cellsOf 3)) = xs[0]? := hf 0 _ rfl
 have g1 : DataW.trod enc Tryz.prog W 0 spare held m 3 (([c0, c1, c2, c3, c4].drop 1).take (Tryz.prog.cellsOf 3)) = xs[1]? := hf 1 _ rfl
 have g2 : DataW.trod enc Tryz.prog W 0 spare held m 3 (([c0, c1, c2, c3, c4].drop 2).take (Tryz.prog.cellsOf 3)) = xs[2]? := hf 2 _ rfl
 have g3 : DataW.trod enc Tryz.prog W 0 spare held m 3 (([c0, c1, c2, c3, c4].drop 3).take (Tryz.prog.cellsOf 3)) = xs[3]? := hf 3 _ rfl
 have g4 : DataW.trod enc Tryz.prog W 0 spare held m 3 (([c0, c1, c2, c3, c4].drop 4).take (Tryz.prog.cellsOf 3)) = xs[4]? := hf 4 _ rfl
 rw [cellsInt] at g0 g1 g2 g3 g4
 rw [List.getElem?_eq_getElem (by omega)] at g0 g1 g2 g3 g4
 obtain ⟨z0, e0, _⟩ := read_int g0
 obtain ⟨z1, e1, _⟩ := read_int g1
 obtain ⟨z2, e2, _⟩ := read_int g2
 obtain ⟨z3, e3, _⟩ := read_int g3
 obtain ⟨z4, e4, _⟩ := read_int g4
 simp only [List.drop_zero, List.drop_succ_cons, List.take_succ_cons, List.take_zero, List.cons.injEq, and_true] at e0 e1 e2 e3 e4
 subst e0 e1 e2 e3 e4
 refine ⟨⟨z0, z1, z2, z3, z4⟩, fun j hj => ?_, trivial⟩
 match j, hj with
 | 0, _ => exact ⟨.v _, rfl⟩
 | 1, _ => exact ⟨.v _, rfl⟩
 | 2, _ => exact ⟨.v _, rfl⟩
 | 3, _ => exact ⟨.v _, rfl⟩
 | 4, _ => exact ⟨.v _, rfl⟩
theorem read_top {α : Type} [Enc α] {t e : TypeId} (hu : Tryz.prog.underlying t = some (.slice e)) (hn : Tryz.prog.cellsOf e = Enc.n α) {Good : α → Prop} (hd : Good Enc.dflt)
  (hel : ∀ {n : Nat} {cs : List Value} {x : DataW H × List MemPlace}, DataW.trod enc Tryz.prog W 0 spare held n e cs = some x → ∃ a : α, Tells W a cs ∧ Good a)
  {o : Option Addr} {n c : Nat} {d : DataW H} {ps : List MemPlace} (h : DataW.Trod enc Tryz.prog W 0 spare held t (.slice o n c) d ps) :
  ∃ l : List α, Rel W (Old W) rho0 (slE l) (.slice o n c) ∧ ∀ j, Good (l.getD j Enc.dflt) := by
 obtain ⟨m, h⟩ := h
 have hcs : (Value.slice o n c).cells.toList = [.slice o n c] := rfl
 rw [hcs] at h
 obtain ⟨v, l, e1, _, e3, e4⟩ := read_slice hu hn hd hel h
 obtain rfl : Value.slice o n c = v := by simpa using e1
 exact ⟨l, e3, e4⟩
end
end Go.Te

namespace Go.Te
open Go Go.Sx Go.Proofs Go.Ar Go.RowKit
set_option maxRecDepth 100000
structure Qu where
 l : List Row
 w : Int
 d : Int
 s : Int
 q : Int
 sp : Str
instance : Enc Qu := ⟨6, ⟨[], 0, 0, 0, 0, []⟩, fun c => listFn [slE c.l, .i c.w, .i c.d, .i c.s, .i c.q, .str c.sp], fun cs => ⟨slD (cs 0), AV.int (cs 1), AV.int (cs 2), AV.int (cs 3), AV.int (cs 4), AV.bytes (cs 5)⟩,
 fun cs => slOk Row (cs 0) && isI64 (cs 1) && isI64 (cs 2) && isI64 (cs 3) && isI64 (cs 4) && isStr (cs 5), fun cs h j hj => by
 simp only [Bool.and_eq_true] at h
 match j, hj with
 | 0, _ => exact slE_sound h.1.1.1.1.1
 | 1, _ => exact avM_of_eq (isI64_eq h.1.1.1.1.2)
 | 2, _ => exact avM_of_eq (isI64_eq h.1.1.1.2)
 | 3, _ => exact avM_of_eq (isI64_eq h.1.1.2)
 | 4, _ => exact avM_of_eq (isI64_eq h.1.2)
 | 5, _ => exact avM_of_eq (isStr_eq h.2)⟩
instance : LawEnc Qu := ⟨fun c => by cases c; simp [Enc.enc, Enc.dec, listFn, slD_slE, AV.int, AV.bytes], fun c => by cases c; simp [Enc.enc, Enc.ok, listFn, slOk_slE, isI64, isStr]⟩
section
variable {H : Type} {enc : TypeId × Value → H} {W : World} {spare : Nat → Bool} {held : Bool}
theorem rel_string (s : ByteArray) {S : Nat → Prop} {ρ : Nat → Sx.Own} : Rel W S ρ (.str s.data.toList) (.string s) := by
 have h : Rel W S ρ (.str s.data.toList) (.string ⟨s.data.toList.toArray⟩) := .str _
 simpa using h
theorem cellsqu : Tryz.prog.cellsOf 25 = 6 := by kernel_rfl
theorem cellsStr : Tryz.prog.cellsOf 23 = 1 := by kernel_rfl
theorem cellsRows : Tryz.prog.cellsOf 22 = 1 := by kernel_rfl
theorem read_rows {n : Nat} {cs : List Value} {x : DataW H × List MemPlace} (h : DataW.trod enc Tryz.prog W 0 spare held n 22 cs = some x) :
  ∃ (v : Value) (l : List Row), cs = [v] ∧ v.oneCell' = true ∧ Rel W (Old W) rho0 (slE l) v ∧ ∀ j : Nat, True :=
 read_slice (α := Row) (Good := fun _ => True) Tryz.underlying22 cellsrow trivial read_row h
theorem read_qu {n : Nat} {cs : List Value} {x : DataW H × List MemPlace} (h : DataW.trod enc Tryz.prog W 0 spare held n 25 cs = some x) : ∃ g : Qu, Tells W g cs ∧ True := by
 obtain ⟨xs, m, _, _, hl, hx, hf⟩ := DataW.trod_struct Tryz.underlying25 h
 rw [cellsqu] at hl
 match cs, hl with
 | [c0, c1, c2, c3, c4, c5], _ =>
 have hx3 : xs.length = 6 := hx
 have g0 : DataW.trod enc Tryz.prog W 0 spare held m 22 (([c0, c1, c2, c3, c4, c5].drop 0).take (Tryz.prog.cellsOf 22)) = xs[0]? := hf 0 _ rfl
 have g1 : DataW.trod enc Tryz.prog W 0 spare held m 3 (([c0, c1, c2, c3, c4, c5].drop 1).take (Tryz.prog.cellsOf 3)) = xs[1]? := hf 1 _ rfl
 have g2 : DataW.trod enc Tryz.prog W 0 spare held m 3 (([c0, c1, c2, c3, c4, c5].drop 2).take (Tryz.prog.cellsOf 3)) = xs[2]? := hf 2 _ rfl
 have g3 : DataW.trod enc Tryz.prog W 0 spare held m 3 (([c0, c1, c2, c3, c4, c5].drop 3).take (Tryz.prog.cellsOf 3)) = xs[3]? := hf 3 _ rfl
 have g4 : DataW.trod enc Tryz.prog W 0 spare held m 3 (([c0, c1, c2, c3, c4, c5].drop 4).take (Tryz.prog.cellsOf 3)) = xs[4]? := hf 4 _ rfl
 have g5 : DataW.trod enc Tryz.prog W 0 spare held m 23 (([c0, c1, c2, c3, c4, c5].drop 5).take (Tryz.prog.cellsOf 23)) = xs[5]? := hf 5 _ rfl
 rw [cellsInt] at g1 g2 g3 g4
 rw [cellsRows] at g0
 rw [cellsStr] at g5
 rw [List.getElem?_eq_getElem (by omega)] at g0 g1 g2 g3 g4 g5
 obtain ⟨v, l, e0, o, r, _⟩ := read_rows g0
 obtain ⟨z1, e1, _⟩ := read_int g1
 obtain ⟨z2, e2, _⟩ := read_int g2
 obtain ⟨z3, e3, _⟩ := read_int g3
 obtain ⟨z4, e4, _⟩ := read_int g4
 obtain ⟨s5, e5, _⟩ := DataW.trod_string Tryz.underlying23 g5
 simp only [List.drop_zero, List.drop_succ_cons, List.take_succ_cons, List.take_zero, List.cons.injEq, and_true] at e0 e1 e2 e3 e4 e5
 subst e0 e1 e2 e3 e4 e5
 refine ⟨⟨l, z1, z2, z3, z4, s5.data.toList⟩, fun j hj => ?_, trivial⟩
 match j, hj with
 | 0, _ => exact ⟨r, o⟩
 | 1, _ => exact ⟨.v _, rfl⟩
 | 2, _ => exact ⟨.v _, rfl⟩
 | 3, _ => exact ⟨.v _, rfl⟩
 | 4, _ => exact ⟨.v _, rfl⟩
 | 5, _ => exact ⟨rel_string s5, rfl⟩
theorem read_quV {cs : Array Value} {d : DataW H} {ps : List MemPlace} (h : DataW.Trod enc Tryz.prog W 0 spare held 25 (.agg cs) d ps) (hs : cs.size = 6) : ∃ b : Qu, Rel W (Old W) rho0 (agE b) (.agg cs) := by
 obtain ⟨m, h⟩ := h
 have hcs : (Value.agg cs).cells.toList = cs.toList := rfl
 rw [hcs] at h
 obtain ⟨b, hb, _⟩ := read_qu h
 refine ⟨b, .agg cs hs fun i hi => ?_⟩
 have e : cs.getD i undef = cs.toList.getD i undef := by
  rw [Array.getD_eq_getD_getElem?, List.getD_eq_getElem?_getD, Array.getElem?_toList]
 rw [e]
 exact (hb i hi).1
end
end Go.Te

namespace Go.Te
open Go Go.Sx Go.Proofs Go.Ar Go.Lib
set_option maxRecDepth 100000
set_option maxHeartbeats 4000000
def rstart_t : List AV → Option (List Cond × AV)
 | [x_l, .v (.int .i64 w), .v (.int .i64 d), .v (.int .i64 s), .v (.int .i64 q)] => some ([.b (slOk Row x_l)], .i (askE (slD (α := Row) x_l) w d s q))
 | _ => none
theorem rstart_vc (l : List Row) (w : Int) (d : Int) (s : Int) (q : Int) :
 bndL [AV.xl false 5 (lN l) fun i j => Enc.enc (gD l i Enc.dflt) j, aI w, aI d, aI s, aI q] → bsplit (slOk Row (AV.xl false 5 (lN l) fun i j => Enc.enc (gD l i Enc.dflt) j)) (bsplit (tabE (rowsOf (AV.xl false 5 (lN l) fun i j => Enc.enc (gD l i Enc.dflt) j)) != iZ) (kI ∧ iO = askE l w d s q) (kI ∧ (bif rangB w d s q then iZ else (2 : Int)) = askE l w d s q)) False := by
 delta kI lN gD iZ iO aI
 intro hb
 have e2 : (Enc.dflt : Row) = r0 := rfl
 simp only [sS, agD_row, agOk_row, agD_row', agOk_row', okIn, okIn', deI, deI', okR, okR', deR, deR', deRo, deRo', e2]
 unfold askE
 refine ⟨fun h => by rw [bne_iff_ne.2 h]; rfl, fun h => ?_⟩
 rw [h]
 cases rangB w d s q <;> rfl
theorem rstart_C (l : List Row) (w : Int) (d : Int) (s : Int) (q : Int) : PureCall Tryz.prog [] 84 [slE l, .i w, .i d, .i s, .i q] (.i (askE l w d s q)) :=
 pure_of_vc (T := ((T0.plus 20 rcheck_t).plus 62 rconds_t)) (an := .auto) mixed (TbSound.plus (TbSound.plus tb0_sound rcheck_T) rconds_T) (Eq.mp (by kernel_rfl) (rstart_vc l w d s q))
theorem rstart_T : PureT Tryz.prog [] 84 rstart_t := by
 intro xs ps r h hp
 unfold rstart_t at h
 split at h
 ·skip
  rename_i x_l w d s q
  cases h
  obtain ⟨q0, -⟩ := allC hp
  exact weaken (ys := [slE (slD (α := Row) x_l), .i w, .i d, .i s, .i q]) ⟨slE_sound q0, avM_refl _, avM_refl _, avM_refl _, avM_refl _, trivial⟩ (rstart_C (slD (α := Row) x_l) w d s q)
 ·cases h
def rfind_t : List AV → Option (List Cond × AV)
 | [x_l, .v (.int .i64 w), .v (.int .i64 d), .v (.int .i64 s), .v (.int .i64 q)] => some ([.b (slOk Row x_l)], .tup 2 (listFn [.i (findV (slD (α := Row) x_l) w d s q), .i (findE (slD (α := Row) x_l) w d s q)]))
 | _ => none
theorem rfind_vc (l : List Row) (w : Int) (d : Int) (s : Int) (q : Int) :
 let q2 := (AV.xl false 5 (lN l) fun i j => Enc.enc (gD l i Enc.dflt) j); let q1 := (slOk Row q2); let q3 := (slD q2); let q4 := (True ∧ kI ∧ iZ = findV l w d s q); let q5 := (rowsOf q2); bndL [AV.xl false 5 (lN l) fun i j => Enc.enc (gD l i Enc.dflt) j, aI w, aI d, aI s, aI q] → bsplit q1 (bsplit (askE q3 w d s q != iZ) (j2 ∧ q4 ∧ kI ∧ askE q3 w d s q = findE l w d s q) (bsplit q1 (bsplit (findR q5 w d s q == (0
 : Int)) (j2 ∧ q4 ∧ kI ∧ (25 : Int) = findE l w d s q) (j2 ∧ (True ∧ kI ∧ findR q5 w d s q = findV l w d s q) ∧ kI ∧ iZ = findE l w d s q)) False)) False := by
 delta kI j2 lN gD iZ aI
 dsimp only
 intro hb
 have e2 : (Enc.dflt : Row) = r0 := rfl
 simp only [sS, agD_row, agOk_row, agD_row', agOk_row', okIn, okIn', deI, deI', okR, okR', deR, deR', deRo, deRo', e2]
 refine ⟨fun h => ?_, fun h => ⟨fun h2 => ?_, fun h2 => ?_⟩⟩
 ·have e : findE l w d s q = askE l w d s q := by unfold findE; rw [bne_iff_ne.2 h]; rfl
  exact ⟨rfl, by unfold findV; rw [e, beq_false_of_ne h]; rfl, e.symm⟩
 ·have e : findE l w d s q = 25 := by unfold findE; rw [h, h2]; rfl
  exact ⟨rfl, by unfold findV; rw [e]; rfl, e.symm⟩
 ·have e : findE l w d s q = 0 := by unfold findE; rw [h, beq_false_of_ne h2]; rfl
  exact ⟨rfl, by unfold findV; rw [e]; rfl, e.symm⟩
theorem rfind_C (l : List Row) (w : Int) (d : Int) (s : Int) (q : Int) : PureCall Tryz.prog [] 34 [slE l, .i w, .i d, .i s, .i q] (.tup 2 (listFn [.i (findV l w d s q), .i (findE l w d s q)])) :=
 pure_of_vc (T := ((T0.plus 84 rstart_t).plus 80 rfnd_t)) (an := .auto) mixed (TbSound.plus (TbSound.plus tb0_sound rstart_T) rfnd_T) (Eq.mp (by kernel_rfl) (rfind_vc l w d s q))
theorem rfind_T : PureT Tryz.prog [] 34 rfind_t := by
 intro xs ps r h hp
 unfold rfind_t at h
 split at h
 ·skip
  rename_i x_l w d s q
  cases h
  obtain ⟨q0, -⟩ := allC hp
  exact weaken (ys := [slE (slD (α := Row) x_l), .i w, .i d, .i s, .i q]) ⟨slE_sound q0, avM_refl _, avM_refl _, avM_refl _, avM_refl _, trivial⟩ (rfind_C (slD (α := Row) x_l) w d s q)
 ·cases h
def fineB (c : Qu) : Bool := leB c.l.length 12 && leB c.sp.length 40 && ratE c.sp == 0 && !(c.sp.getD 0 0 == 45) && (findE c.l c.w c.d c.s c.q == 0 || findE c.l c.w c.d c.s c.q == 25)
noncomputable def Tfi (G : List (Nat × Obj)) : Tb := ((tb0 G).plus 12 r2check_t).plus 34 rfind_t
theorem Tfi_sound {G : List (Nat × Obj)} (hG : TabIn G) : TbSound Tryz.prog (Tfi G) := TbSound.plus (TbSound.plus tb0_sound (r2check_T hG)) (PureT.mono rfind_T)
def fine_t : List AV → Option (List Cond × AV)
 | [x_c] => some ([.b (agOk Qu x_c)], .b (fineB (agD (α := Qu) x_c)))
 | _ => none
theorem fine_vc (G : List (Nat × Obj)) (c : Qu) :
 let q2 := (ltB (12 : Int) (lZ (Qu.l c))); let q1 := (!bsel false q2 || bsel false q2); let q4 := (bif ltB (12 : Int) (lZ (Qu.l c)) then true else ltB (40 : Int) (lZ (Qu.sp c))); let q3 := (!bsel false q4 || bsel false q4); let q6 := (bif bif ltB (12 : Int) (lZ (Qu.l c)) then true else ltB (40 : Int) (lZ (Qu.sp c)) then true else ratE (Qu.sp c) != iZ); let q5 := (!bsel false q6 || bsel false q6); let q7 := (AV.xl false 5 (lN (Qu.l c)) fun i j => Enc.enc (gD (Qu.l c) i Enc.dflt) j);
 let q9 := (slD q7); let q8 := (findE q9 (Qu.w c) (Qu.d c) (Qu.s c) (Qu.q c) == iZ); bndL [AV.agg 6 (Enc.enc c)] → bsplit q1 (bsplit q1 (bsplit q1 (bsplit (!!ltB (12 : Int) (lZ (Qu.l c)) || bsel false q2) (bsplit q3 (bsplit q3 ((bsel false q4 = true → lN (Qu.sp c) ≤ 100000000) ∧ bsplit q3 (bsplit ((!!bif ltB (12 : Int) (lZ (Qu.l c)) then true else ltB (40 : Int) (lZ (Qu.sp c))) || bsel false q4) (bsplit q5 (bsplit q5 (bsplit (!bsel false q6 || DB.db (iZ ≤ iZ ∧ iZ < (lZ (Qu.sp c))))
 (bsplit q5 (bsplit ((!!bif bif ltB (12 : Int) (lZ (Qu.l c)) then true else ltB (40 : Int) (lZ (Qu.sp c)) then true else ratE (Qu.sp c) != iZ) || bsel false q6) (bsplit (bif bif bif ltB (12 : Int) (lZ (Qu.l c)) then true else ltB (40 : Int) (lZ (Qu.sp c)) then true else ratE (Qu.sp c) != iZ then true else (↑(UInt8.toNat (gD (Qu.sp c) 0 (0 : UInt8))) : Int) == (45 : Int)) (false = fineB c) (bsplit (slOk Row q7) (bsplit (!bsel false q8 || bsel false q8) (bsplit (!!findE q9 (Qu.w c) (Qu.d c) (Qu.s c) (Qu.q
 c) == iZ || bsel false q8) ((bif findE q9 (Qu.w c) (Qu.d c) (Qu.s c) (Qu.q c) == iZ then true else findE q9 (Qu.w c) (Qu.d c) (Qu.s c) (Qu.q c) == (25 : Int)) = fineB c) False) False) False)) False) False) False) False) False) False) False) False) False) False) False) False) False := by
 delta lZ lN gD iZ
 dsimp only
 intro hb
 have e2 : (Enc.dflt : Row) = r0 := rfl
 simp only [↓vc_db, ↓vc_gdb, row_one]
 simp only [sS, agD_row, agOk_row, agD_row', agOk_row', okIn, okIn', deI, deI', okR, okR', deR, deR', deRo, deRo', e2]
 have pos : ratE c.sp = 0 → 0 < c.sp.length := fun h => by
  obtain ⟨h1, _⟩ := ratE_zero.1 h
  match c.sp, h1 with
  | [], h1 => cases h1
  | x :: r, _ => simp
 rw [show (((c.sp.getD 0 0).toNat : Int) == 45) = (c.sp.getD 0 0 == 45) from byte_eq (c.sp.getD 0 0) 45 (by decide)]
 refine ⟨fun h => ?_, fun h => ⟨Int.le_refl _, ?_⟩, bsplit_iff.2 ⟨fun h => ?_, fun h => ?_⟩⟩
 ·rw [Bool.not_eq_true', Bool.or_eq_false_iff, Bool.eq_false_iff, Bool.eq_false_iff, Ne, Ne, ltB_iff, ltB_iff] at h; omega
 ·rw [Bool.not_eq_true', Bool.or_eq_false_iff, bne_eq_false_iff_eq] at h
  have := pos h.2
  omega
 ·unfold fineB
  refine (Bool.eq_false_iff.2 fun e => ?_).symm
  simp only [Bool.and_eq_true, Bool.not_eq_true', beq_iff_eq, leB_iff] at e
  rw [e.1.2, e.1.1.2, show ltB 12 (c.l.length : Int) = false by rw [Bool.eq_false_iff, Ne, ltB_iff]; omega, show ltB 40 (c.sp.length : Int) = false by rw [Bool.eq_false_iff, Ne, ltB_iff]; omega] at h
  cases h
 ·unfold fineB
  simp only [Bool.or_eq_false_iff, bne_eq_false_iff_eq] at h
  obtain ⟨⟨⟨h1, h2⟩, h3⟩, h4⟩ := h
  rw [Bool.eq_false_iff, Ne, ltB_iff] at h1 h2
  rw [h3, h4, (leB_iff _ _).2 (by omega), (leB_iff _ _).2 (by omega)]
  rfl
theorem fine_C {G : List (Nat × Obj)} (hG : TabIn G) (c : Qu) : PureCall Tryz.prog G 11 [agE c] (.b (fineB c)) :=
 pure_of_vc (T := (Tfi G)) (an := .auto) mixed (Tfi_sound hG) (Eq.mp (by kernel_rfl) (fine_vc G c))
theorem fine_T {G : List (Nat × Obj)} (hG : TabIn G) : PureT Tryz.prog G 11 fine_t := by
 intro xs ps r h hp
 unfold fine_t at h
 split at h
 ·skip
  rename_i x_c
  cases h
  obtain ⟨q0, -⟩ := allC hp
  exact weaken (ys := [agE (agD (α := Qu) x_c)]) ⟨agE_sound q0, trivial⟩ (fine_C hG (agD (α := Qu) x_c))
 ·cases h
theorem agD_qu (c : Qu) : agD (.agg 6 fun i => Enc.enc c i) = c := agD_agE c
theorem agOk_qu (c : Qu) : agOk Qu (.agg 6 fun i => Enc.enc c i) = true := agOk_agE c
end Go.Te

namespace Go.Te
open Go Go.Sx Go.Proofs Go.Ar
set_option maxRecDepth 100000
set_option maxHeartbeats 4000000
def lnE (a : Str) : Int := bif ratE a != 0 then ratE a else bif a.getD 0 0 == 45 then 2 else 0
theorem rat_pos {a : Str} (h : ratE a = 0) : 0 < a.length := by
 obtain ⟨h1, _⟩ := ratE_zero.1 h
 match a, h1 with
 | [], h1 => cases h1
 | x :: r, _ => simp
def csp_t : List AV → Option (List Cond × AV)
 | [.str a] => some ([.p (a.length ≤ 4294967280)], .i (lnE a))
 | _ => none
theorem csp_vc (G : List (Nat × Obj)) (a : List UInt8) (hl : a.length ≤ 4294967280) :
 bndL [AV.str a] → lN a ≤ 9223372036854775807 ∧ bsplit (ratE a != iZ) (kI ∧ ratE a = lnE a) (bsplit (DB.db (iZ ≤ iZ ∧ iZ < (lZ a))) (bsplit ((↑(UInt8.toNat (gD a 0 (0 : UInt8))) : Int) == (45 : Int)) (kI ∧ (2 : Int) = lnE a) (kI ∧ iZ = lnE a)) False) := by
 delta kI lZ lN gD iZ
 intro hb
 simp only [sS, agD_row, agOk_row, agD_row', agOk_row', okIn, okIn', deI, deI', okR, okR', deR, deR', deRo, deRo', ltB_nat]
 have e45 : (((a.getD 0 0).toNat : Int) = 45) ↔ (a.getD 0 0 == 45) = true := by
  have := byte_eq (a.getD 0 0) 45 (by decide)
  rw [← beq_iff_eq (a := ((a.getD 0 0).toNat : Int)) (b := 45)]
  rw [show (((a.getD 0 0).toNat : Int) == 45) = (a.getD 0 0 == 45) from this]
 unfold lnE
 refine ⟨by omega, fun h => by rw [bne_iff_ne.2 h]; rfl, fun h => ⟨⟨Int.le_refl _, by have := rat_pos h; omega⟩, fun h2 => ?_, fun h2 => ?_⟩⟩
 ·rw [h, e45.1 h2]; rfl
 ·rw [h, show (a.getD 0 0 == 45) = false from Bool.eq_false_iff.2 fun e => h2 (e45.2 e)]; rfl
theorem csp_C {G : List (Nat × Obj)} (hG : TabIn G) (a : List UInt8) (hl : a.length ≤ 4294967280) : PureCall Tryz.prog G 56 [.str a] (.i (lnE a)) :=
 pure_of_vc (T := (tb0 G).plus 110 rchk_t) (an := .auto) mixed (TbSound.plus tb0_sound (rchk_T hG)) (Eq.mp (by kernel_rfl) (csp_vc G a hl))
theorem csp_T {G : List (Nat × Obj)} (hG : TabIn G) : PureT Tryz.prog G 56 csp_t := by
 intro xs ps r h hp
 unfold csp_t at h
 split at h
 ·skip
  rename_i a
  cases h
  obtain ⟨q0, -⟩ := allC hp
  exact weaken (ys := [.str a]) ⟨avM_refl _, trivial⟩ (csp_C hG a q0)
 ·cases h
theorem rat_itoa {n : Int} (h : inK .i64 n) : ratE (Lib.itoa n) = 0 ∧ ratN (Lib.itoa n) = n ∧ ratD (Lib.itoa n) = 1 ∧ (Lib.itoa n).length ≤ 21 := by
 have hs : showR n 1 = Lib.itoa n := by unfold showR; show Lib.itoa n ++ [] = _; rw [List.append_nil]
 obtain ⟨p1, p2, p3, p4, p5⟩ := showR_parts n (d := 1) (by omega)
 rw [hs] at p1 p2 p3 p4 p5
 simp only [inK] at h
 have hn : nDg n ≤ 20 := nDg_le (by omega) (by omega)
 refine ⟨ratE_zero.2 ⟨p1, by omega, by rw [p5]; simp, by rw [p3]; exact Nat.gcd_one_right _⟩, p2, p3, ?_⟩
 rw [itoa_len]
 split <;> omega
def of1_t : List AV → Option (List Cond × AV)
 | [.v (.int .i64 n), .v (.int .i64 d)] => some ([.b (d == 1), .p (inK .i64 n)], .tup 2 (listFn [.str (Lib.itoa n), .i 0]))
 | _ => none
theorem of1_T {G : List (Nat × Obj)} (hG : TabIn G) : PureT Tryz.prog G 89 of1_t := by
 intro xs ps r h hp
 unfold of1_t at h
 split at h
 ·rename_i n d
  cases h
  have q : (d == 1) = true := hp _ List.mem_cons_self
  have q1 : inK .i64 n := hp _ (List.mem_cons_of_mem _ List.mem_cons_self)
  obtain rfl := eq_of_beq q
  exact of1_C hG n q1
 ·cases h
def fitE (n : Int) (a : Str) : Int := rcE a (Lib.itoa n)
def fitB (n : Int) (a : Str) : Bool := fitE n a == 0 && ltB 0 n && leB (ratN a) (n * (ratD a : Int))
def sfits_t : List AV → Option (List Cond × AV)
 | [.v (.int .i64 n), .str a] => some ([.p (inK .i64 n), .p (a.length ≤ 4294967280), .p (ratE a = 0)], .tup 2 (listFn [.b (fitB n a), .i (fitE n a)]))
 | _ => none
theorem sfits_vc (G : List (Nat × Obj)) (n : Int) (a : List UInt8) (hn : inK .i64 n) (hl : a.length ≤ 4294967280) (hr : ratE a = 0) :
 bndL [aI n, AV.str a] → (iN ≤ n ∧ n ≤ iX) ∧ lN a ≤ 9223372036854775807 ∧ lN (Lib.itoa n) ≤ 9223372036854775807 ∧ bsplit (!bsel true (rcE a (Lib.itoa n) == iZ) || bsel true (rcE a (Lib.itoa n) == iZ)) (bsplit (!rcE a (Lib.itoa n) == iZ || bsel true (rcE a (Lib.itoa n) == iZ)) (bsplit (!bsel true (bif rcE a (Lib.itoa n) == iZ then ltB iZ n else false) || bsel true (bif rcE a (Lib.itoa n) == iZ then ltB iZ n else false)) (bsplit ((!bif rcE a (Lib.itoa n)
 == iZ then ltB iZ n else false) || bsel true (bif rcE a (Lib.itoa n) == iZ then ltB iZ n else false)) (j2 ∧ (True ∧ (bif bif rcE a (Lib.itoa n) == iZ then ltB iZ n else false then leB (rcV a (Lib.itoa n)) iZ else false) = fitB n a) ∧ kI ∧ rcE a (Lib.itoa n) = fitE n a) False) False) False) False := by
 delta kI j2 lN iZ iX iN aI
 intro hb
 simp only [sS, agD_row, agOk_row, agD_row', agOk_row', okIn, okIn', deI, deI', okR, okR', deR, deR', deRo, deRo', ltB_nat]
 obtain ⟨r1, r2, r3, r4⟩ := rat_itoa hn
 refine ⟨hn, by omega, by omega, rfl, ?_, rfl⟩
 unfold fitB fitE
 cases he : rcE a (Lib.itoa n) == 0 with
 | false => rfl
 | true =>
  rw [rc_E (eq_of_beq he), r2, r3]
  have : leB (cmpI (ratN a * ((1 : Nat) : Int)) (n * (ratD a : Int))) 0 = leB (ratN a) (n * (ratD a : Int)) := by
   rw [Bool.eq_iff_iff, leB_iff, leB_iff, show ratN a * ((1 : Nat) : Int) = ratN a from Int.mul_one _]
   unfold cmpI
   generalize n * (ratD a : Int) = m
   by_cases h1 : ratN a < m
   ·rw [(ltB_iff _ _).2 h1]; simp; omega
   ·rw [show ltB (ratN a) m = false from Bool.eq_false_iff.2 fun e => h1 ((ltB_iff _ _).1 e)]
    by_cases h2 : ratN a = m
    ·rw [h2, beq_self_eq_true]; simp
    ·rw [beq_eq_false_iff_ne.2 h2]; simp; omega
  rw [this]
theorem sfits_C {G : List (Nat × Obj)} (hG : TabIn G) (n : Int) (a : List UInt8) (hn : inK .i64 n) (hl : a.length ≤ 4294967280) (hr : ratE a = 0) : PureCall Tryz.prog G 57 [.i n, .str a] (.tup 2 (listFn [.b (fitB n a), .i (fitE n a)])) :=
 pure_of_vc (T := ((tb0 G).plus 89 of1_t).plus 90 rCmp_t) (an := .auto) mixed (TbSound.plus (TbSound.plus tb0_sound (of1_T hG)) (rCmp_T hG)) (Eq.mp (by kernel_rfl) (sfits_vc G n a hn hl hr))
theorem sfits_T {G : List (Nat × Obj)} (hG : TabIn G) : PureT Tryz.prog G 57 sfits_t := by
 intro xs ps r h hp
 unfold sfits_t at h
 split at h
 ·skip
  rename_i n a
  cases h
  obtain ⟨q0, q1, q2, -⟩ := allC hp
  exact weaken (ys := [.i n, .str a]) ⟨avM_refl _, avM_refl _, trivial⟩ (sfits_C hG n a q0 q1 q2)
 ·cases h
theorem find_bound {l : List Row} {w d s q : Int} (h : tabE l = 0) : 0 ≤ findR l w d s q ∧ findR l w d s q ≤ 1073741824 := by
 refine ⟨findZ_nonneg _ _ _ _ _ _, findZ_le (by omega) fun i hi => ?_⟩
 obtain ⟨_, h2⟩ := rowE_ok ((tabE_ok h).2 i hi)
 have := between_iff.1 h2
 omega
def alE (l : List Row) (w d s q : Int) (a : Str) : Int := bif askE l w d s q != 0 then askE l w d s q else bif lnE a != 0 then lnE a else fitE (findR l w d s q) a
def alB (l : List Row) (w d s q : Int) (a : Str) : Bool := bif askE l w d s q != 0 then false else bif lnE a != 0 then false else fitB (findR l w d s q) a
def sallow_t : List AV → Option (List Cond × AV)
 | [x_l, .v (.int .i64 w), .v (.int .i64 d), .v (.int .i64 s), .v (.int .i64 q), .str a] => some ([.b (slOk Row x_l), .p (a.length ≤ 4294967280)], .tup 2 (listFn [.b (alB (slD (α := Row) x_l) w d s q a), .i (alE (slD (α := Row) x_l) w d s q a)]))
 | _ => none
theorem sallow_vc (G : List (Nat × Obj)) (l : List Row) (w : Int) (d : Int) (s : Int) (q : Int) (a : List UInt8) (hl : a.length ≤ 4294967280) :
 let q2 := (AV.xl false 5 (lN l) fun i j => Enc.enc (gD l i Enc.dflt) j); let q1 := (slOk Row q2); let q3 := (rowsOf q2); let q4 := (findR q3 w d s q); bndL [AV.xl false 5 (lN l) fun i j => Enc.enc (gD l i Enc.dflt) j, aI w, aI d, aI s, aI q, AV.str a] → bsplit q1 (bsplit (askE q3 w d s q != iZ) (j2 ∧ (True ∧ false = alB l w d s q a) ∧ kI ∧ askE q3 w d s q = alE l w d s q a) (lN a ≤ 4294967280 ∧ bsplit (lnE a != iZ) (2
 = lN [AV.junk, AV.junk] ∧ (True ∧ false = alB l w d s q a) ∧ kI ∧ lnE a = alE l w d s q a) (bsplit q1 ((iN ≤ findR q3 w d s q ∧ findR q3 w d s q ≤ iX) ∧ lN a ≤ 4294967280 ∧ ratE a = iZ ∧ j2 ∧ (True ∧ fitB q4 a = alB l w d s q a) ∧ kI ∧ fitE q4 a = alE l w d s q a) False))) False := by
 delta kI j2 lN gD iZ iX iN aI
 dsimp only
 intro hb
 have e2 : (Enc.dflt : Row) = r0 := rfl
 simp only [sS, agD_row, agOk_row, agD_row', agOk_row', okIn, okIn', deI, deI', okR, okR', deR, deR', deRo, deRo', e2]
 refine ⟨fun h => ?_, fun h => ⟨hl, fun h2 => ?_, fun h2 => ?_⟩⟩
 ·unfold alB alE
  rw [bne_iff_ne.2 h]
  exact ⟨rfl, rfl, rfl⟩
 ·unfold alB alE
  rw [h, bne_iff_ne.2 h2]
  exact ⟨rfl, rfl, rfl⟩
 ·have ht : tabE l = 0 := by
   refine Decidable.byContradiction fun e => ?_
   unfold askE at h
   rw [bne_iff_ne.2 e] at h
   cases h
  have hr : ratE a = 0 := by
   refine Decidable.byContradiction fun e => ?_
   unfold lnE at h2
   rw [bne_iff_ne.2 e] at h2
   exact e h2
  have hb := find_bound (w := w) (d := d) (s := s) (q := q) ht
  unfold alB alE
  rw [h, h2]
  exact ⟨⟨by omega, by omega⟩, hl, hr, rfl, rfl, rfl⟩
theorem sallow_C {G : List (Nat × Obj)} (hG : TabIn G) (l : List Row) (w : Int) (d : Int) (s : Int) (q : Int) (a : List UInt8) (hl : a.length ≤ 4294967280) : PureCall Tryz.prog G 15 [slE l, .i w, .i d, .i s, .i q, .str a] (.tup 2 (listFn [.b (alB l w d s q a), .i (alE l w d s q a)])) :=
 pure_of_vc (T := ((((tb0 G).plus 55 ask_t).plus 56 csp_t).plus 58 allowed_t).plus 57 sfits_t) (an := .auto) mixed (TbSound.plus (TbSound.plus (TbSound.plus (TbSound.plus tb0_sound (PureT.mono ask_T)) (csp_T hG)) (PureT.mono allowed_T)) (sfits_T hG)) (Eq.mp (by kernel_rfl) (sallow_vc G l w d s q a hl))
theorem sallow_T {G : List (Nat × Obj)} (hG : TabIn G) : PureT Tryz.prog G 15 sallow_t := by
 intro xs ps r h hp
 unfold sallow_t at h
 split at h
 ·skip
  rename_i x_l w d s q a
  cases h
  obtain ⟨q0, q1, -⟩ := allC hp
  exact weaken (ys := [slE (slD (α := Row) x_l), .i w, .i d, .i s, .i q, .str a]) ⟨slE_sound q0, avM_refl _, avM_refl _, avM_refl _, avM_refl _, avM_refl _, trivial⟩ (sallow_C hG (slD (α := Row) x_l) w d s q a q1)
 ·cases h
end Go.Te

namespace Go.Te
open Go Go.Sx Go.Proofs Go.Ar Go.RowKit
set_option maxRecDepth 100000
set_option maxHeartbeats 4000000
structure Mb where
 k : Int
 f : Int
 o : Int
 fr : Spt
 to : Spt
 w : Int
 d : Int
instance : Enc Mb := ⟨11, ⟨0, 0, 0, ⟨[], [], []⟩, ⟨[], [], []⟩, 0, 0⟩,
 fun c => listFn [.i c.k, .i c.f, .i c.o, .str c.fr.x, .str c.fr.y, .str c.fr.z, .str c.to.x, .str c.to.y, .str c.to.z, .i c.w, .i c.d],
 fun cs => ⟨AV.int (cs 0), AV.int (cs 1), AV.int (cs 2), ⟨AV.bytes (cs 3), AV.bytes (cs 4), AV.bytes (cs 5)⟩, ⟨AV.bytes (cs 6), AV.bytes (cs 7), AV.bytes (cs 8)⟩, AV.int (cs 9), AV.int (cs 10)⟩,
 fun cs => isI64 (cs 0) && isI64 (cs 1) && isI64 (cs 2) && isStr (cs 3) && isStr (cs 4) && isStr (cs 5) && isStr (cs 6) && isStr (cs 7) && isStr (cs 8) && isI64 (cs 9) && isI64 (cs 10), fun cs h j hj => by
 simp only [Bool.and_eq_true] at h
 match j, hj with
 | 0, _ => exact avM_of_eq (isI64_eq h.1.1.1.1.1.1.1.1.1.1)
 | 1, _ => exact avM_of_eq (isI64_eq h.1.1.1.1.1.1.1.1.1.2)
 | 2, _ => exact avM_of_eq (isI64_eq h.1.1.1.1.1.1.1.1.2)
 | 3, _ => exact avM_of_eq (isStr_eq h.1.1.1.1.1.1.1.2)
 | 4, _ => exact avM_of_eq (isStr_eq h.1.1.1.1.1.1.2)
 | 5, _ => exact avM_of_eq (isStr_eq h.1.1.1.1.1.2)
 | 6, _ => exact avM_of_eq (isStr_eq h.1.1.1.1.2)
 | 7, _ => exact avM_of_eq (isStr_eq h.1.1.1.2)
 | 8, _ => exact avM_of_eq (isStr_eq h.1.1.2)
 | 9, _ => exact avM_of_eq (isI64_eq h.1.2)
 | 10, _ => exact avM_of_eq (isI64_eq h.2)⟩
instance : LawEnc Mb := ⟨fun _ => rfl, fun _ => rfl⟩
abbrev m0 : Mb := ⟨0, 0, 0, ⟨[], [], []⟩, ⟨[], [], []⟩, 0, 0⟩
theorem agD_mb (b : Mb) : agD (.agg 11 fun i => Enc.enc b i) = b := agD_agE b
theorem agOk_mb (b : Mb) : agOk Mb (.agg 11 fun i => Enc.enc b i) = true := agOk_agE b
theorem agD_mb' (b : Mb) (g : Nat → AV) : agD (.agg 11 fun i => if i < 11 then Enc.enc b i else g i) = b := LawEnc.dec b
theorem agOk_mb' (b : Mb) (g : Nat → AV) : agOk Mb (.agg 11 fun i => if i < 11 then Enc.enc b i else g i) = true := agOk_agE b
theorem mbS : (∀ m : Mb, AV.int (Enc.enc m 0) = m.k) ∧ (∀ m : Mb, AV.bytes (Enc.enc m 3) = m.fr.x) ∧ (∀ m : Mb, AV.bytes (Enc.enc m 4) = m.fr.y) ∧ (∀ m : Mb, AV.bytes (Enc.enc m 5) = m.fr.z) ∧
  (∀ m : Mb, AV.bytes (Enc.enc m 6) = m.to.x) ∧ (∀ m : Mb, AV.bytes (Enc.enc m 7) = m.to.y) ∧ (∀ m : Mb, AV.bytes (Enc.enc m 8) = m.to.z) ∧ (∀ m : Mb, AV.int (Enc.enc m 9) = m.w) ∧ (∀ m : Mb, AV.int (Enc.enc m 10) = m.d) :=
 ⟨fun _ => rfl, fun _ => rfl, fun _ => rfl, fun _ => rfl, fun _ => rfl, fun _ => rfl, fun _ => rfl, fun _ => rfl, fun _ => rfl⟩
theorem bsS : (∀ s : Str, AV.bytes (.str s) = s) ∧ (∀ m : Spt, (⟨m.x, m.y, m.z⟩ : Spt) = m) := ⟨fun _ => rfl, fun _ => rfl⟩
theorem res_lt {n : Int} (h : resE n = 0) : n.natAbs < 10 ^ 300 := by
 have := big_b (a := Lib.itoa n) (by rw [intE_itoa', h])
 rw [(itoa_intB n).2] at this
 exact this
theorem frS_len (f : Int → Int → Int) (a b : Str) : (frS f a b).length ≤ 700 := by
 unfold frS
 cases h : frE f a b == 0 with
 | false => simp
 | true =>
  have h := eq_of_beq h
  unfold frE at h
  have hr : rcE a b = 0 := by
   refine Decidable.byContradiction fun e => ?_
   rw [bne_iff_ne.2 e] at h; exact e h
  rw [hr] at h
  simp only [bne_self_eq_false, cond_false] at h
  have hN : resE (frN f a b) = 0 := by
   refine Decidable.byContradiction fun e => ?_
   rw [bne_iff_ne.2 e] at h; exact e h
  rw [hN] at h
  simp only [bne_self_eq_false, cond_false] at h
  unfold rcE at hr
  have ha : ratE a = 0 := by
   refine Decidable.byContradiction fun e => ?_
   rw [bne_iff_ne.2 e] at hr; exact e hr
  rw [ha] at hr
  simp only [bne_self_eq_false, cond_false] at hr
  have hb : ratE b = 0 := by
   refine Decidable.byContradiction fun e => ?_
   rw [bne_iff_ne.2 e] at hr; exact e hr
  have pa := ratD_pos (ratE_zero.1 ha).1
  have pb := ratD_pos (ratE_zero.1 hb).1
  have d2 := res_lt h
  rw [← Int.natCast_mul, Int.natAbs_natCast] at d2
  exact (showQ_sm (k := 300) (by omega) (by omega) (Nat.mul_pos (by omega) (by omega)) (res_lt hN) d2).2.2
theorem muS_len (a b : Str) : (muS a b).length ≤ 700 := by
 unfold muS
 cases h : muE a b == 0 with
 | false => simp
 | true =>
  have h := eq_of_beq h
  unfold muE at h
  have ha : ratE a = 0 := by
   refine Decidable.byContradiction fun e => ?_
   rw [bne_iff_ne.2 e] at h; exact e h
  rw [ha] at h
  simp only [bne_self_eq_false, cond_false] at h
  have hb : ratE b = 0 := by
   refine Decidable.byContradiction fun e => ?_
   rw [bne_iff_ne.2 e] at h; exact e h
  rw [hb] at h
  simp only [bne_self_eq_false, cond_false] at h
  have hN : resE (ratN a * ratN b) = 0 := by
   refine Decidable.byContradiction fun e => ?_
   rw [bne_iff_ne.2 e] at h; exact e h
  rw [hN] at h
  simp only [bne_self_eq_false, cond_false] at h
  have pa := ratD_pos (ratE_zero.1 ha).1
  have pb := ratD_pos (ratE_zero.1 hb).1
  have d2 := res_lt h
  rw [← Int.natCast_mul, Int.natAbs_natCast] at d2
  exact (showQ_sm (k := 300) (by omega) (by omega) (Nat.mul_pos (by omega) (by omega)) (res_lt hN) d2).2.2
theorem vsS_len (a b : Spt) : (vsS a b).x.length ≤ 700 ∧ (vsS a b).y.length ≤ 700 := by
 unfold vsS
 cases vsE a b == 0 with
 | true => exact ⟨frS_len _ _ _, frS_len _ _ _⟩
 | false => exact ⟨Nat.zero_le _, Nat.zero_le _⟩
def mbL (m : Mb) : Prop := spL m.fr ∧ spL m.to
def chE (m : Mb) : Int := bif !between m.w 1 1000 || !between m.d 1 1000 then 2 else bif vcE m.fr != 0 then vcE m.fr else vcE m.to
def mchk_t : List AV → Option (List Cond × AV)
 | [x_m] => some ([.b (agOk Mb x_m), .p (mbL (agD (α := Mb) x_m))], .i (chE (agD (α := Mb) x_m)))
 | _ => none
theorem mchk_vc (G : List (Nat × Obj)) (m : Mb) (hl : mbL m) :
 let q1 := (!bsel false !between (Mb.w m) iO (1000 : Int) || bsel false !between (Mb.w m) iO (1000 : Int)); let q2 := (Spt.mk (AV.bytes (AV.str (Spt.x (Mb.fr m)))) (AV.bytes (AV.str (Spt.y (Mb.fr m)))) (AV.bytes (AV.str (Spt.z (Mb.fr m))))); let q3 := (Spt.mk (AV.bytes (AV.str (Spt.x (Mb.to m)))) (AV.bytes (AV.str (Spt.y (Mb.to m)))) (AV.bytes (AV.str (Spt.z (Mb.to m))))); bndL [AV.agg 11 (Enc.enc m)] → bsplit q1 (bsplit q1 (bsplit q1 (bsplit (!!!between (Mb.w m) iO (1000 : Int) || bsel false !between (Mb.w m) iO (1000 : Int)) (bsplit (bif !between (Mb.w m) iO
 (1000 : Int) then true else !between (Mb.d m) iO (1000 : Int)) (kI ∧ (2 : Int) = chE m) ((lN (Spt.x q2) ≤ 9223372036854775807 ∧ lN (Spt.y q2) ≤ 9223372036854775807 ∧ lN (Spt.z q2) ≤ 9223372036854775807) ∧ bsplit (vcE q2 != iZ) (kI ∧ vcE q2 = chE m) ((lN (Spt.x q3) ≤ 9223372036854775807 ∧ lN (Spt.y q3) ≤ 9223372036854775807 ∧ lN (Spt.z q3) ≤ 9223372036854775807) ∧ kI ∧ vcE q3 = chE m))) False) False) False) False := by
 delta kI lN iZ iO
 dsimp only
 intro hb
 simp only [sS, agD_row, agOk_row, agD_row', agOk_row', okIn, okIn', deI, deI', okR, okR', deR, deR', deRo, deRo', bsS]
 unfold chE
 refine bsplit_iff.2 ⟨fun c => by rw [c]; rfl, fun c => ⟨hl.1, fun h => by rw [c, bne_iff_ne.2 h]; rfl, fun h => ⟨hl.2, by rw [c, h]; rfl⟩⟩⟩
theorem mchk_C {G : List (Nat × Obj)} (hG : TabIn G) (m : Mb) (hl : mbL m) : PureCall Tryz.prog G 87 [agE m] (.i (chE m)) :=
 pure_of_vc (T := ((tb0 G).plus 75 within_t).plus 127 vchk_t) (an := .auto) mixed (TbSound.plus (TbSound.plus tb0_sound (PureT.mono within_T)) (vchk_T hG)) (Eq.mp (by kernel_rfl) (mchk_vc G m hl))
theorem mchk_T {G : List (Nat × Obj)} (hG : TabIn G) : PureT Tryz.prog G 87 mchk_t := by
 intro xs ps r h hp
 unfold mchk_t at h
 split at h
 ·skip
  rename_i x_m
  cases h
  obtain ⟨q0, q1, -⟩ := allC hp
  exact weaken (ys := [agE (agD (α := Mb) x_m)]) ⟨agE_sound q0, trivial⟩ (mchk_C hG (agD (α := Mb) x_m) q1)
 ·cases h
def vX (m : Mb) : Str := (vsS m.to m.fr).x
def vY (m : Mb) : Str := (vsS m.to m.fr).y
def sqE (m : Mb) : Int :=
 bif vsE m.to m.fr != 0 then vsE m.to m.fr else bif muE (vX m) (vX m) != 0 then muE (vX m) (vX m) else bif muE (vY m) (vY m) != 0 then muE (vY m) (vY m)
 else frE (· + ·) (muS (vX m) (vX m)) (muS (vY m) (vY m))
def sqS (m : Mb) : Str := bif sqE m == 0 then frS (· + ·) (muS (vX m) (vX m)) (muS (vY m) (vY m)) else []
def msq_t : List AV → Option (List Cond × AV)
 | [x_m] => some ([.b (agOk Mb x_m), .p (mbL (agD (α := Mb) x_m))], .tup 2 (listFn [.str (sqS (agD (α := Mb) x_m)), .i (sqE (agD (α := Mb) x_m))]))
 | _ => none
theorem msq_vc (G : List (Nat × Obj)) (m : Mb) (hl : mbL m) :
 let q1 := (Spt.mk (AV.bytes (AV.str (Spt.x (Mb.to m)))) (AV.bytes (AV.str (Spt.y (Mb.to m)))) (AV.bytes (AV.str (Spt.z (Mb.to m))))); let q2 := (Spt.mk (AV.bytes (AV.str (Spt.x (Mb.fr m)))) (AV.bytes (AV.str (Spt.y (Mb.fr m)))) (AV.bytes (AV.str (Spt.z (Mb.fr m))))); let q3 := (True ∧ Array.toList (ByteArray.data (ByteArray.mk #[])) = sqS m); let q5 := (vsS q1 q2); let q4 := (Spt.x q5); let q6 := (Spt.y q5); let q7 := (muS q4 q4); let q8 := (muS q6 q6); bndL [AV.agg 11 (Enc.enc m)] → (lN (Spt.x q1) ≤ 9223372036854775807 ∧ lN (Spt.y q1) ≤ 9223372036854775807 ∧ List.length
 (Spt.z q1) ≤ 9223372036854775807) ∧ (lN (Spt.x q2) ≤ 9223372036854775807 ∧ lN (Spt.y q2) ≤ 9223372036854775807 ∧ lN (Spt.z q2) ≤ 9223372036854775807) ∧ bsplit (vsE q1 q2 != iZ) (j2 ∧ q3 ∧ kI ∧ vsE q1 q2 = sqE m) (lN q4 ≤ 9223372036854775807 ∧ lN q4 ≤ 9223372036854775807 ∧ bsplit (muE q4 q4 != iZ) (j2 ∧ q3 ∧ kI ∧ muE q4 q4 = sqE m) (lN q6 ≤ 9223372036854775807 ∧ lN q6 ≤ 9223372036854775807 ∧ bsplit (muE q6 q6 != iZ) (2
 = lN [AV.junk, AV.junk] ∧ q3 ∧ kI ∧ muE q6 q6 = sqE m) (lN q7 ≤ 9223372036854775807 ∧ lN q8 ≤ 9223372036854775807 ∧ j2 ∧ (True ∧ frS (fun (x1 x2 : Int) => x1 + x2) q7 q8 = sqS m) ∧ kI ∧ frE (fun (x1 x2 : Int) => x1 + x2) q7 q8 = sqE m))) := by
 delta kI j2 lN iZ
 dsimp only
 intro hb
 simp only [sS, agD_row, agOk_row, agD_row', agOk_row', okIn, okIn', deI, deI', okR, okR', deR, deR', deRo, deRo', bsS]
 obtain ⟨l1, l2⟩ := vsS_len m.to m.fr
 have l3 := muS_len (vX m) (vX m)
 have l4 := muS_len (vY m) (vY m)
 have eX : (vsS m.to m.fr).x = vX m := rfl
 have eY : (vsS m.to m.fr).y = vY m := rfl
 simp only [eX, eY] at l1 l2 ⊢
 have bad : ∀ e : Int, e ≠ 0 → e = sqE m → 2 = [AV.junk, AV.junk].length ∧ [] = sqS m ∧ e = sqE m := fun e h0 h => ⟨rfl, by unfold sqS; rw [← h, beq_eq_false_iff_ne.2 h0]; rfl, h⟩
 refine ⟨hl.2, hl.1, fun h => bad _ h ?_, fun h1 => ⟨by omega, by omega, fun h => bad _ h ?_, fun h2 => ⟨by omega, by omega, fun h => bad _ h ?_, fun h3 => ?_⟩⟩⟩
 ·unfold sqE; rw [bne_iff_ne.2 h]; rfl
 ·unfold sqE; rw [h1, bne_iff_ne.2 h]; rfl
 ·unfold sqE; rw [h1, h2, bne_iff_ne.2 h]; rfl
 ·have e : sqE m = frE (fun x1 x2 => x1 + x2) (muS (vX m) (vX m)) (muS (vY m) (vY m)) := by unfold sqE; rw [h1, h2, h3]; rfl
  refine ⟨by omega, by omega, rfl, ?_, e.symm⟩
  unfold sqS
  rw [e]
  cases h : frE (fun x1 x2 => x1 + x2) (muS (vX m) (vX m)) (muS (vY m) (vY m)) == 0 with
  | true => rfl
  | false => unfold frS; rw [h]; rfl
theorem msq_C {G : List (Nat × Obj)} (hG : TabIn G) (m : Mb) (hl : mbL m) : PureCall Tryz.prog G 88 [agE m] (.tup 2 (listFn [.str (sqS m), .i (sqE m)])) :=
 pure_of_vc (T := (((tb0 G).plus 40 vsub_t).plus 128 qMul_t).plus 43 qAdd_t) (an := .auto) mixed (TbSound.plus (TbSound.plus (TbSound.plus tb0_sound (vsub_T hG)) (qMul_T hG)) (qAdd_T hG)) (Eq.mp (by kernel_rfl) (msq_vc G m hl))
theorem msq_T {G : List (Nat × Obj)} (hG : TabIn G) : PureT Tryz.prog G 88 msq_t := by
 intro xs ps r h hp
 unfold msq_t at h
 split at h
 ·skip
  rename_i x_m
  cases h
  obtain ⟨q0, q1, -⟩ := allC hp
  exact weaken (ys := [agE (agD (α := Mb) x_m)]) ⟨agE_sound q0, trivial⟩ (msq_C hG (agD (α := Mb) x_m) q1)
 ·cases h
end Go.Te

namespace Go.Te
open Go Go.Sx Go.Proofs Go.Ar
set_option maxRecDepth 100000
set_option maxHeartbeats 4000000
section
variable {H : Type} {enc : TypeId × Value → H} {W : World} {spare : Nat → Bool} {held : Bool}
end
theorem fine_ask {c : Qu} (h : fineB c = true) : askE c.l c.w c.d c.s c.q = 0 ∧ ratE c.sp = 0 ∧ (c.sp.getD 0 0 == 45) = false ∧ c.sp.length ≤ 40 := by
 unfold fineB at h
 simp only [Bool.and_eq_true, Bool.not_eq_true', Bool.or_eq_true, beq_iff_eq, leB_iff] at h
 obtain ⟨⟨⟨⟨h1, h2⟩, h3⟩, h4⟩, h5⟩ := h
 refine ⟨?_, h3, by simpa using h4, by omega⟩
 unfold findE at h5
 unfold askE at h5 ⊢
 cases ht : tabE c.l != 0 with
 | true =>
  rw [ht] at h5
  simp at h5
 | false =>
  rw [ht] at h5
  cases hr : rangB c.w c.d c.s c.q with
  | true => rfl
  | false =>
   rw [hr] at h5
   simp at h5
theorem ask_split {l : List Row} {w d s q : Int} : askE l w d s q = 0 ↔ tabE l = 0 ∧ (1 ≤ w ∧ w ≤ 1000) ∧ (1 ≤ d ∧ d ≤ 1000) ∧ (1 ≤ s ∧ s ≤ 65536) ∧ (0 ≤ q ∧ q ≤ 1048576) := by
 have hr : rangB w d s q = true ↔ (1 ≤ w ∧ w ≤ 1000) ∧ (1 ≤ d ∧ d ≤ 1000) ∧ (1 ≤ s ∧ s ≤ 65536) ∧ (0 ≤ q ∧ q ≤ 1048576) := by
  unfold rangB condB
  rw [Bool.and_eq_true, Bool.and_eq_true, Bool.and_eq_true, between_iff, between_iff, between_iff, between_iff]
  constructor
  ·rintro ⟨⟨a, b⟩, c, d⟩; exact ⟨a, b, c, d⟩
  ·rintro ⟨a, b, c, d⟩; exact ⟨⟨a, b⟩, c, d⟩
 rw [← hr]
 unfold askE
 cases ht : tabE l != 0 with
 | true =>
  rw [bne_iff_ne] at ht
  exact ⟨fun h => (by cases h), fun h => absurd h.1 ht⟩
 | false =>
  rw [bne_eq_false_iff_eq] at ht
  cases hq : rangB w d s q with
  | true => exact ⟨fun _ => ⟨ht, rfl⟩, fun _ => rfl⟩
  | false => exact ⟨fun h => (by cases h), fun h => (by cases h.2)⟩
end Go.Te

namespace Go.Te
open Go Go.Sx Go.Proofs Go.Ar Go.RowKit
set_option maxRecDepth 100000
set_option maxHeartbeats 4000000
def mbsOf (x : AV) : List Mb := slD x
def mbE (l : List Row) (s q : Int) (m : Mb) : Int := bif chE m != 0 then chE m else bif sqE m != 0 then sqE m else rcE (sqS m) (Lib.itoa (findR l m.w m.d s q * findR l m.w m.d s q))
def mbB (l : List Row) (s q : Int) (m : Mb) : Bool := findR l m.w m.d s q == 0 || ltB 0 (rcV (sqS m) (Lib.itoa (findR l m.w m.d s q * findR l m.w m.d s q)))
def meAt (l : List Row) (s q : Int) (ms : List Mb) (i : Nat) : Int := bif between (ms.getD i m0).k 1 5 then mbE l s q (ms.getD i m0) else 0
def meZ (l : List Row) (s q : Int) (ms : List Mb) : Nat → List Int
 | 0 => []
 | z + 1 => meZ l s q ms z ++ bif between (ms.getD z m0).k 1 5 && mbB l s q (ms.getD z m0) then [(z : Int)] else []
def meE (l : List Row) (s q : Int) (ms : List Mb) : Int := bif askE l 1 1 s q != 0 then askE l 1 1 s q else bif Nat.blt 512 ms.length then 4 else firstN (meAt l s q ms) ms.length 0
def meV (l : List Row) (s q : Int) (ms : List Mb) : List Int := bif meE l s q ms == 0 then meZ l s q ms ms.length else []
structure MeS where
 i : Nat
 out : List Int
def mArr (l : List Int) : OB := .arr 3 1 l.length fun i j => Enc.enc (l.getD i Enc.dflt) j
noncomputable def Tme (G : List (Nat × Obj)) : Tb := (((((((tb0 G).plus 55 ask_t).plus 75 within_t).plus 87 mchk_t).plus 88 msq_t).plus 58 allowed_t).plus 89 of1_t).plus 90 rCmp_t
theorem Tme_sound {G : List (Nat × Obj)} (hG : TabIn G) : TbSound Tryz.prog (Tme G) :=
 TbSound.plus (TbSound.plus (TbSound.plus (TbSound.plus (TbSound.plus (TbSound.plus (TbSound.plus tb0_sound (PureT.mono ask_T)) (PureT.mono within_T)) (mchk_T hG)) (msq_T hG)) (PureT.mono allowed_T)) (of1_T hG)) (rCmp_T hG)
theorem me_ask {l : List Row} {s q : Int} {ms : List Mb} (h : askE l 1 1 s q ≠ 0) : askE l 1 1 s q = meE l s q ms := by unfold meE; rw [bne_iff_ne.2 h]; rfl
theorem me_many {l : List Row} {s q : Int} {ms : List Mb} (h : askE l 1 1 s q = 0) (h2 : 512 < ms.length) : 4 = meE l s q ms := by unfold meE; rw [h, (blt_iff _ _).2 h2]; rfl
theorem me_few {l : List Row} {s q : Int} {ms : List Mb} (h : askE l 1 1 s q = 0) (h2 : ms.length ≤ 512) : meE l s q ms = firstN (meAt l s q ms) ms.length 0 := by
 unfold meE
 rw [h, show Nat.blt 512 ms.length = false from Bool.eq_false_iff.2 fun e => by have := (blt_iff _ _).1 e; omega]; rfl
theorem sqS_len (m : Mb) : (sqS m).length ≤ 700 := by
 unfold sqS
 cases sqE m == 0 with
 | true => exact frS_len _ _ _
 | false => exact Nat.zero_le _
theorem sq_bound {n : Int} (hn : 0 ≤ n ∧ n ≤ 1073741824) : 0 ≤ n * n ∧ n * n ≤ 1152921504606846976 := by
 have h1 : n.natAbs * n.natAbs ≤ 1073741824 * 1073741824 := Nat.mul_le_mul (by omega) (by omega)
 have h2 : ((n.natAbs * n.natAbs : Nat) : Int) = n * n := Int.natAbs_mul_self
 have h3 : 0 ≤ n * n := Int.mul_nonneg hn.1 hn.1
 omega
theorem meZ_len (l : List Row) (s q : Int) (ms : List Mb) : ∀ z, (meZ l s q ms z).length ≤ z
 | 0 => Nat.le_refl _
 | z + 1 => by
  have := meZ_len l s q ms z
  unfold meZ
  rw [List.length_append]
  cases between (ms.getD z m0).k 1 5 && mbB l s q (ms.getD z m0) with
  | true => simp; omega
  | false => simp; omega
def me_an (ms : List Mb) (l : List Row) (s q : Int) : Ann :=
 .two .auto (.two .auto (.two .auto (.two .auto (.two (.two .auto (.one (.loop MeS (fun σ z => [(1, σ.tm 1), (2, σ.tm 2), (3, σ.tm 3), (30, σ.tm 30), (31, σ.tm 31), (11, .ns σ.nb 0 z.out.length), (32, .i z.i)]) (fun σ z => [(σ.nb, mArr z.out)]) 1 (fun σ z => z.i ≤ ms.length ∧ z.out = meZ l s q ms z.i ∧ ∀ i, i < z.i → meAt l s q ms i = 0) (fun σ z => ms.length - z.i) .auto))) .auto))))
def mem_t : List AV → Option (List Cond × AV)
 | [x_ms, x_l, .v (.int .i64 s), .v (.int .i64 q)] => some ([.b (slOk Mb x_ms), .b (slOk Row x_l), .p (∀ x ∈ (mbsOf x_ms), mbL x)], .tup 2 (listFn [slE (meV (slD (α := Row) x_l) s q (mbsOf x_ms)), .i (meE (slD (α := Row) x_l) s q (mbsOf x_ms))]))
 | _ => none
theorem mem_vc (G : List (Nat × Obj)) (ms : List Mb) (l : List Row) (s : Int) (q : Int) (hl : ∀ x ∈ ms, mbL x) :
 let q2 := (AV.xl false 5 (lN l) fun i j => Enc.enc (gD l i Enc.dflt) j); let q1 := (slOk Row q2); let q3 := (rowsOf q2); let q4 := (True ∧ Value.slice (Non Addr) 0 0 = Value.slice (Non Addr) 0 0 ∧ lN (meV l s q ms) = 0); let q5 := (AV.xl false 11 (lN ms) fun i j => Enc.enc (gD ms i Enc.dflt) j); let q6 := (kI ∧ (lZ ms) = (lZ ms)); bndL [AV.xl false 11 (lN ms) fun i j => Enc.enc (gD ms i Enc.dflt) j, AV.xl false 5 (lN l) fun i j => Enc.enc (gD l i Enc.dflt) j, AV.v
 (Value.int .i64 s), aI q] → bsplit q1 (bsplit (askE q3 iO iO s q != iZ) (j2 ∧ q4 ∧ kI ∧ askE q3 iO iO s q = meE l s q ms) (bsplit (ltB (512 : Int) (lZ ms)) (j2 ∧ q4 ∧ kI ∧ (4 : Int) = meE l s q ms) ((∃ (z : MeS), ((MeS.i z ≤ lN ms ∧ MeS.out z = meZ l s q ms (MeS.i z) ∧ ∀ (i : Nat), i < MeS.i z → meAt l s q ms i = iZ) ∧ avM q2 q2 ∧ (kI ∧ s = s) ∧ (kI ∧ q = q) ∧ avM q5 q5 ∧ q6 ∧ (some
 (Non Nat) = some (Non Nat) ∧ 0 = 0 ∧ lN (MeS.out z) = 0) ∧ kI ∧ iZ = (↑(MeS.i z) : Int)) ∧ lN (MeS.out z) = 0) ∧ ∀ (z : MeS), let q7 := (gD ms (Int.toNat (↑(MeS.i z) : Int)) Enc.dflt); let q9 := (DB.db (inK .i64 ((↑(MeS.i z) : Int) + iO))); let q8 := (bsplit q9 (∃ (z' : MeS), (((MeS.i z' ≤ lN ms ∧ MeS.out z' = meZ l s q ms (MeS.i z') ∧ ∀ (i : Nat), i < MeS.i z' → meAt l s q ms i = iZ) ∧ lN ms - MeS.i z' < lN ms - MeS.i z) ∧ avM q2 q2 ∧ (kI ∧ s = s) ∧ (kI ∧ q = q) ∧ avM q5 q5
 ∧ q6 ∧ (nat_lit 0 = 0 ∧ 0 = 0 ∧ lN (MeS.out z') = lN (MeS.out z)) ∧ kI ∧ (↑(MeS.i z) : Int) + iO = (↑(MeS.i z') : Int)) ∧ 3 = 3 ∧ 1 = 1 ∧ lN (MeS.out z') = lN (MeS.out z) ∧ ∀ (i j : Nat), i < lN (MeS.out z) → j < 1 → kI ∧ gD (MeS.out z) i Enc.dflt = gD (MeS.out z') i Enc.dflt) False); let q12 := (agD (AV.agg 11 fun (i : Nat) => if 0 ≤ 0 + i ∧ 0 + i < 11 then (fun i j => Enc.enc (gD ms i Enc.dflt) j) (Int.toNat (↑(MeS.i z) : Int)) (0 + (0 + i - 0)) else zcell (Value.agg #[Value.int .i64 (0 :
 Int), Value.int .i64 iZ, Value.int .i64 iZ, Value.string (ByteArray.mk #[]), Value.string (ByteArray.mk #[]), Value.string (ByteArray.mk #[]), Value.string (ByteArray.mk #[]), Value.string (ByteArray.mk #[]), Value.string (ByteArray.mk #[]), Value.int .i64 iZ, Value.int .i64 iZ]) (0 + i))); let q11 := (Mb.fr q12); let q13 := (Mb.to q12); let q10 := ((lN (Spt.x q11) ≤ 9223372036854775807 ∧ lN (Spt.y q11) ≤ 9223372036854775807 ∧ lN (Spt.z q11) ≤ 9223372036854775807) ∧ lN (Spt.x q13) ≤ 9223372036854775807 ∧ lN (Spt.y q13) ≤
 9223372036854775807 ∧ lN (Spt.z q13) ≤ 9223372036854775807); let q15 := (Mb.w q7); let q16 := (Mb.d q7); let q14 := (findR q3 q15 q16 s q * findR q3 q15 q16 s q); let q17 := (sqS q12); let q18 := (Lib.itoa q14); let q19 := (findR q3 q15 q16 s q == iZ); (MeS.i z ≤ lN ms ∧ MeS.out z = meZ l s q ms (MeS.i z) ∧ ∀ (i : Nat), i < MeS.i z → meAt l s q ms i = iZ) → bsplit (ltB (↑(MeS.i z) : Int) (lZ ms)) (bsplit (DB.db (iZ ≤ (↑(MeS.i z) : Int) ∧ (↑(MeS.i z) : Int) < (lZ ms))) (bsplit (!between (Mb.k q7) iO (5 : Int)) q8
 (q10 ∧ bsplit (chE q12 != iZ) (j2 ∧ q4 ∧ kI ∧ chE q12 = meE l s q ms) (q10 ∧ bsplit (sqE q12 != iZ) (j2 ∧ q4 ∧ kI ∧ sqE q12 = meE l s q ms) (bsplit q1 (bsplit (DB.db (inK .i64 q14)) ((iN ≤ findR q3 q15 q16 s q * findR q3 q15 q16 s q ∧ findR q3 q15 q16 s q * findR q3 q15 q16 s q ≤ iX) ∧ lN q17 ≤ 9223372036854775807 ∧ lN q18 ≤ 9223372036854775807 ∧ bsplit (rcE q17 q18 != iZ) (j2 ∧
 q4 ∧ kI ∧ rcE q17 q18 = meE l s q ms) (bsplit (!bsel false q19 || bsel false q19) (bsplit (!!findR q3 q15 q16 s q == iZ || bsel false q19) (bsplit (bif findR q3 q15 q16 s q == iZ then true else ltB iZ (rcV q17 q18)) (bsplit (DB.db ((lN (MeS.out z) + 1) * 8 ≤ 140737488355328)) (bsplit q9 (∃ (z' : MeS), (((MeS.i z' ≤ lN ms ∧ MeS.out z' = meZ l s q ms (MeS.i z') ∧ ∀ (i : Nat), i < MeS.i z' → meAt l s q ms i = iZ) ∧ lN ms - MeS.i z' < lN ms - MeS.i z) ∧ avM q2 q2 ∧ (kI ∧ s = s) ∧ (kI ∧ q
 = q) ∧ avM q5 q5 ∧ q6 ∧ (nat_lit 0 = 0 ∧ 0 = 0 ∧ lN (MeS.out z') = lN (MeS.out z) + 1) ∧ kI ∧ (↑(MeS.i z) : Int) + iO = (↑(MeS.i z') : Int)) ∧ (3 : TypeId) = 3 ∧ 1 = 1 ∧ lN (MeS.out z') = lN (MeS.out z) + 1 ∧ ∀ (i j : Nat), i < lN (MeS.out z) + 1 → j < 1 → avM (if i < lN (MeS.out z) then aI (gD (MeS.out z) i Enc.dflt) else Sx.rowAt [fun (x : Nat) => aI (↑(MeS.i z) : Int)] (i - lN (MeS.out z)) j) (aI (gD (MeS.out z') i Enc.dflt))) False)
 False) q8) False) False)) False) False)))) False) (j2 ∧ (True ∧ avM (AV.xl false 1 (lN (MeS.out z)) fun i j => aI (gD (MeS.out z) (0 + i) Enc.dflt)) (AV.xl false 1 (lN (meV l s q ms)) fun i j => aI (gD (meV l s q ms) i Enc.dflt))) ∧ kI ∧ iZ = meE l s q ms)))) False := by
 delta kI j2 lZ lN gD iZ iO iX iN aI
 dsimp only
 intro hb
 have e2 : (Enc.dflt : Row) = r0 := rfl
 have e3 : (Enc.dflt : Mb) = m0 := rfl
 have e0 : (Enc.dflt : Int) = 0 := rfl
 simp only [↓vc_db, ↓vc_gdb, row_one]
 simp only [sS, agD_row, agOk_row, agD_row', agOk_row', okIn, okIn', deI, deI', okR, okR', deR, deR', deRo, deRo', e2, e3, e0, agD_mb, agOk_mb, agD_mb', agOk_mb', mbS]
 have bad : ∀ e : Int, e ≠ 0 → e = meE l s q ms → 2 = [AV.junk, AV.junk].length ∧ (meV l s q ms).length = 0 ∧ e = meE l s q ms := fun e h0 h => ⟨rfl, by unfold meV; rw [← h, beq_eq_false_iff_ne.2 h0]; rfl, h⟩
 refine ⟨fun h => bad _ h (me_ask h), fun h => ⟨fun h2 => bad 4 (by decide) (me_many h (by omega)), fun h2 => ⟨⟨⟨0, []⟩, ⟨⟨Nat.zero_le _, rfl, fun i hi => absurd hi (Nat.not_lt_zero _)⟩, rfl, rfl⟩, rfl⟩, fun z ⟨z1, z2, z3⟩ => ⟨fun hz => ⟨⟨by omega, hz⟩, bsplit_iff.2 ⟨fun c => ?_, fun c => ?_⟩⟩, fun hz => ?_⟩⟩⟩⟩
 ·rw [Bool.not_eq_true'] at c
  have e1 : meAt l s q ms z.i = 0 := by unfold meAt; rw [c]; rfl
  have e2 : meZ l s q ms (z.i + 1) = z.out := by
   show meZ l s q ms z.i ++ _ = _
   rw [c, ← z2]; exact List.append_nil _
  refine ⟨⟨by omega, by omega⟩, ⟨z.i + 1, z.out⟩, ⟨⟨⟨by simp only; omega, e2.symm, fun i hi => ?_⟩, by simp only; omega⟩, rfl, by simp⟩, rfl, fun _ _ _ _ => rfl⟩
  by_cases e : i = z.i
  ·rw [e]; exact e1
  ·exact z3 i (by simp only at hi; omega)
 ·rw [Bool.not_eq_false'] at c
  have hm : ms.getD z.i m0 ∈ ms := by
   rw [List.getD_eq_getElem?_getD, List.getElem?_eq_getElem (by omega)]
   exact List.getElem_mem (by omega)
  have hlm := hl _ hm
  have at_ : meAt l s q ms z.i = mbE l s q (ms.getD z.i m0) := by unfold meAt; rw [c]; rfl
  have err : ∀ e : Int, e ≠ 0 → mbE l s q (ms.getD z.i m0) = e → e = meE l s q ms := fun e h0 he => by
   rw [me_few h (by omega), firstN_at (by omega) z3 (by rw [at_, he]; exact h0), at_, he]
  have hbl := meZ_len l s q ms z.i
  rw [← z2] at hbl
  have hn := find_bound (w := (ms.getD z.i m0).w) (d := (ms.getD z.i m0).d) (s := s) (q := q) (ask_split.1 h).1
  have nn := sq_bound hn
  have l1 := sqS_len (ms.getD z.i m0)
  have l2 := itoaL (n := findR l (ms.getD z.i m0).w (ms.getD z.i m0).d s q * findR l (ms.getD z.i m0).w (ms.getD z.i m0).d s q) (by omega)
  have zs : meZ l s q ms (z.i + 1) = z.out ++ bif mbB l s q (ms.getD z.i m0) then [(z.i : Int)] else [] := by
   show meZ l s q ms z.i ++ _ = _
   rw [c, ← z2]; rfl
  refine ⟨hlm, fun h3 => bad _ h3 (err _ h3 ?_), fun h3 => ⟨hlm, fun h4 => bad _ h4 (err _ h4 ?_), fun h4 => ⟨⟨by omega, by omega⟩, ⟨by omega, by omega⟩, by omega, by omega, fun h5 => bad _ h5 (err _ h5 ?_), fun h5 => ?_⟩⟩⟩
  ·unfold mbE; rw [bne_iff_ne.2 h3]; rfl
  ·unfold mbE; rw [h3, bne_iff_ne.2 h4]; rfl
  ·unfold mbE; rw [h3, h4]; rfl
  have z4 : ∀ i, i < z.i + 1 → meAt l s q ms i = 0 := fun i hi => by
   by_cases e : i = z.i
   ·rw [e, at_]; unfold mbE; rw [h3, h4, h5]; rfl
   ·exact z3 i (by omega)
  refine bsplit_iff.2 ⟨fun c2 => ?_, fun c2 => ?_⟩
  ·have zs : meZ l s q ms (z.i + 1) = z.out ++ [(z.i : Int)] := by rw [zs]; unfold mbB; rw [c2]; rfl
   refine ⟨by omega, ⟨by omega, by omega⟩, ⟨z.i + 1, z.out ++ [(z.i : Int)]⟩, ⟨⟨⟨by simp only; omega, zs.symm, z4⟩, by simp only; omega⟩, by simp, by simp⟩, by simp, fun i j hi hj => ?_⟩
   by_cases hi2 : i < z.out.length
   ·rw [if_pos hi2, show (z.out ++ [(z.i : Int)]).getD i 0 = z.out.getD i 0 by simp [List.getD_eq_getElem?_getD, List.getElem?_append_left hi2]]
    exact avM_refl _
   ·obtain rfl : i = z.out.length := by omega
    rw [if_neg hi2, show (z.out ++ [(z.i : Int)]).getD z.out.length 0 = (z.i : Int) by simp [List.getD_eq_getElem?_getD]]
    exact avM_refl _
  ·have zs : meZ l s q ms (z.i + 1) = z.out := by rw [zs]; unfold mbB; rw [c2]; exact List.append_nil _
   exact ⟨⟨by omega, by omega⟩, ⟨z.i + 1, z.out⟩, ⟨⟨⟨by simp only; omega, zs.symm, z4⟩, by simp only; omega⟩, rfl, by simp⟩, rfl, fun _ _ _ _ => rfl⟩
 ·have ez : z.i = ms.length := by omega
  rw [ez] at z2 z3
  have e : meE l s q ms = 0 := by rw [me_few h (by omega)]; exact firstN_none z3
  have ev : meV l s q ms = z.out := by unfold meV; rw [e, ← z2]; rfl
  rw [ev, e]
  exact ⟨rfl, avM_refl _, rfl⟩
theorem mem_C {G : List (Nat × Obj)} (hG : TabIn G) (ms : List Mb) (l : List Row) (s : Int) (q : Int) (hl : ∀ x ∈ ms, mbL x) : PureCall Tryz.prog G 37 [slE ms, slE l, .i s, .i q] (.tup 2 (listFn [slE (meV l s q ms), .i (meE l s q ms)])) :=
 pure_of_vc (T := Tme G) (an := me_an ms l s q) mixed (Tme_sound hG) (Eq.mp (by kernel_rfl) (mem_vc G ms l s q hl))
theorem mem_T {G : List (Nat × Obj)} (hG : TabIn G) : PureT Tryz.prog G 37 mem_t := by
 intro xs ps r h hp
 unfold mem_t at h
 split at h
 ·skip
  rename_i x_ms x_l s q
  cases h
  obtain ⟨q0, q1, q2, -⟩ := allC hp
  exact weaken (ys := [slE (mbsOf x_ms), slE (slD (α := Row) x_l), .i s, .i q]) ⟨slE_sound q0, slE_sound q1, avM_refl _, avM_refl _, trivial⟩ (mem_C hG (mbsOf x_ms) (slD (α := Row) x_l) s q q2)
 ·cases h
end Go.Te

namespace Go.Te
open Go Go.Sx Go.Proofs Go.Ar Go.RowKit
set_option maxRecDepth 100000
set_option maxHeartbeats 4000000
theorem al_sm {l : List Row} {w d s q : Int} {a : Str} (hA : askE l w d s q = 0) (ha : smK 40 a) (h45 : (a.getD 0 0 == 45) = false) :
  alE l w d s q a = 0 ∧ alB l w d s q a = (ltB 0 (findR l w d s q) && leB (ratN a) (findR l w d s q * (ratD a : Int))) := by
 obtain ⟨hr, b1, b2, b3⟩ := ha
 have ht := (ask_split.1 hA).1
 have hn := find_bound (w := w) (d := d) (s := s) (q := q) ht
 have hL : lnE a = 0 := by unfold lnE; rw [hr, h45]; rfl
 unfold alE alB fitB fitE
 rw [hA, hL]
 generalize findR l w d s q = n at *
 obtain ⟨i1, i2, i3, _⟩ := rat_itoa (n := n) ⟨by omega, by omega⟩
 have e1 : resE (ratN a * (ratD (Lib.itoa n) : Int)) = 0 := by
  rw [i3, show ratN a * ((1 : Nat) : Int) = ratN a from Int.mul_one _]
  exact (res_small (k := 40) (by omega) (by omega) b1).2
 have e2 : resE (ratN (Lib.itoa n) * (ratD a : Int)) = 0 := by
  rw [i2]
  refine (res_small (k := 10 + 40) (by omega) (by omega) ?_).2
  rw [Int.natAbs_mul, Int.natAbs_natCast]
  exact mul_lt_pow (by omega) b2
 have e : rcE a (Lib.itoa n) = 0 := by rw [rc_D hr i1 e1, e2]
 rw [e]
 exact ⟨rfl, rfl⟩
def goodB (m : Mb) : Bool :=
 vsE m.to m.fr == 0 && !([m.fr.x, m.fr.y, m.to.x, m.to.y].any fun a => ltB 12 a.length) && (vX m == [48] || vY m == [48]) && (between m.w 1 1000 && between m.d 1 1000)
theorem smK_up {j k : Nat} (h : j ≤ k) {a : Str} (ha : smK j a) : smK k a :=
 ⟨ha.1, Nat.lt_of_lt_of_le ha.2.1 (pw_le h), Nat.lt_of_lt_of_le ha.2.2.1 (pw_le h), ha.2.2.2⟩
theorem raf_one {l : List Row} {s q : Int} {m : Mb} {v : Str} (hA : askE l m.w m.d s q = 0) (hv : smK 25 v) (hs : sqE m = 0 ∧ sqS m = muS v v) (hc : chE m = 0) :
  alE l m.w m.d s q (ownS v) = 0 ∧ (!alB l m.w m.d s q (ownS v)) = mbB l s q m ∧ mbE l s q m = 0 := by
 have hn := find_bound (w := m.w) (d := m.d) (s := s) (q := q) (ask_split.1 hA).1
 obtain ⟨o1, o2, o3, o4⟩ := own_rat hv.1
 have ho : smK 40 (ownS v) := by
  refine smK_up (j := 25) (by omega) ⟨o1, by rw [o2, Int.natAbs_natCast]; exact hv.2.1, by rw [o3]; exact hv.2.2.1, by rw [o3]; exact hv.2.2.2⟩
 obtain ⟨a1, a2⟩ := al_sm hA ho o4
 obtain ⟨c1, c2⟩ := sq_cmp (k := 25) (by omega) (by omega) hv hn
 refine ⟨a1, ?_, by unfold mbE; rw [hc, hs.1, hs.2, c1]; rfl⟩
 unfold mbB
 rw [a2, hs.2, c2, o2, o3]
 generalize findR l m.w m.d s q = n at *
 rw [Bool.eq_iff_iff, Bool.not_eq_true', Bool.and_eq_false_iff, Bool.or_eq_true, beq_iff_eq, ltB_iff, Bool.eq_false_iff, Bool.eq_false_iff, Ne, Ne, ltB_iff, leB_iff]
 omega
theorem raf_law {l : List Row} {w d s q : Int} (hA : askE l w d s q = 0) {m : Mb} (hg : goodB m = true) :
  frE (· + ·) (vX m) (vY m) = 0 ∧ alE l m.w m.d s q (ownS (frS (· + ·) (vX m) (vY m))) = 0 ∧ (!alB l m.w m.d s q (ownS (frS (· + ·) (vX m) (vY m)))) = mbB l s q m ∧ mbE l s q m = 0 ∧ askE l m.w m.d s q = 0 := by
 unfold goodB at hg
 rw [Bool.and_eq_true, Bool.and_eq_true, Bool.and_eq_true, Bool.and_eq_true, beq_iff_eq, Bool.not_eq_true', Bool.or_eq_true, beq_iff_eq, beq_iff_eq, between_iff, between_iff] at hg
 obtain ⟨⟨⟨g1, g2⟩, g3⟩, g4, g5⟩ := hg
 rw [List.any_eq_false] at g2
 obtain ⟨t1, _, _, t4, t5⟩ := ask_split.1 hA
 have hA' : askE l m.w m.d s q = 0 := ask_split.2 ⟨t1, g4, g5, t4, t5⟩
 have len : ∀ a ∈ [m.fr.x, m.fr.y, m.to.x, m.to.y], a.length ≤ 12 := fun a ha => by
  have := g2 a ha
  rw [ltB_iff] at this
  omega
 have vc : ∀ a : Spt, vcE a = 0 → ratE a.x = 0 ∧ ratE a.y = 0 := fun a h => by
  unfold vcE at h
  by_cases h1 : ratE a.x = 0
  ·rw [h1] at h
   simp only [bne_self_eq_false, cond_false] at h
   by_cases h2 : ratE a.y = 0
   ·exact ⟨h1, h2⟩
   ·rw [bne_iff_ne.2 h2] at h; exact absurd h h2
  ·rw [bne_iff_ne.2 h1] at h; exact absurd h h1
 have vt : vcE m.to = 0 := by
  refine Decidable.byContradiction fun h => ?_
  unfold vsE at g1
  rw [bne_iff_ne.2 h] at g1; exact h g1
 have vf : vcE m.fr = 0 := by
  refine Decidable.byContradiction fun h => ?_
  unfold vsE at g1
  rw [vt, bne_iff_ne.2 h] at g1; exact h g1
 obtain ⟨tx, ty⟩ := vc _ vt
 obtain ⟨fx, fy⟩ := vc _ vf
 have kx := smK_len tx (len _ (by simp)) (by omega)
 have ky := smK_len ty (len _ (by simp)) (by omega)
 have k1 := smK_len fx (len _ (by simp)) (by omega)
 have k2 := smK_len fy (len _ (by simp)) (by omega)
 have eX : vX m = frS (· - ·) m.to.x m.fr.x := by unfold vX vsS; rw [g1]; rfl
 have eY : vY m = frS (· - ·) m.to.y m.fr.y := by unfold vY vsS; rw [g1]; rfl
 have sX : smK 25 (vX m) := by rw [eX]; exact (fr_sum (f := fun x y => x - y) (fun u v => by omega) (by omega) (by omega) kx k1).2.1
 have sY : smK 25 (vY m) := by rw [eY]; exact (fr_sum (f := fun x y => x - y) (fun u v => by omega) (by omega) (by omega) ky k2).2.1
 have hc : chE m = 0 := by
  unfold chE
  rw [show between m.w 1 1000 = true from between_iff.2 g4, show between m.d 1 1000 = true from between_iff.2 g5, vf, vt]; rfl
 obtain ⟨z1, z2⟩ := mul_zz
 rcases g3 with g3 | g3
 ·obtain ⟨p1, p2, _⟩ := mu_prod (by omega) (by omega) sY sY
  obtain ⟨r1, r2⟩ := add_zeroL (by omega) (by omega) p2
  obtain ⟨u1, u2⟩ := add_zeroL (by omega) (by omega) sY
  have hq : sqE m = 0 := by unfold sqE; rw [g1, g3, z1, z2, p1, r1]; rfl
  have hqs : sqS m = muS (vY m) (vY m) := by unfold sqS; rw [hq, g3, z2, r2]; rfl
  rw [g3, u1, u2]
  exact ⟨rfl, (raf_one hA' sY ⟨hq, hqs⟩ hc).1, (raf_one hA' sY ⟨hq, hqs⟩ hc).2.1, (raf_one hA' sY ⟨hq, hqs⟩ hc).2.2, hA'⟩
 ·obtain ⟨p1, p2, _⟩ := mu_prod (by omega) (by omega) sX sX
  obtain ⟨r1, r2⟩ := add_zeroR (by omega) (by omega) p2
  obtain ⟨u1, u2⟩ := add_zeroR (by omega) (by omega) sX
  have hq : sqE m = 0 := by unfold sqE; rw [g1, p1, g3, z1, z2, r1]; rfl
  have hqs : sqS m = muS (vX m) (vX m) := by unfold sqS; rw [hq, g3, z2, r2]; rfl
  rw [g3, u1, u2]
  exact ⟨rfl, (raf_one hA' sX ⟨hq, hqs⟩ hc).1, (raf_one hA' sX ⟨hq, hqs⟩ hc).2.1, (raf_one hA' sX ⟨hq, hqs⟩ hc).2.2, hA'⟩
end Go.Te
