/- kingpostlaw04: text, of. -/
import Derived.Test.YthbpnknhfokadaaGreatDoorThQi
import Derived.Test.YthbpnknhfokadaaGreatDoorArAB
set_option linter.unusedSimpArgs false
set_option linter.unusedVariables false
namespace Go.Te
open Go Go.Sx Go.Proofs Go.Ar
set_option maxRecDepth 100000
set_option maxHeartbeats 4000000
structure fY where
 a : Int
 b : Nat
 k : Nat
end Go.Te

namespace Go.Te
open Go Go.Sx Go.Proofs Go.Ar
set_option maxRecDepth 100000
set_option maxHeartbeats 4000000
structure Sm where
 A : Int
 C : Int
 E : Int
 B : Int
 D : Int
 F : Int
 N : Int
 M : Int
def M1 : AV → Bool
 | .v (.int .i8 _) => true
 | _ => false
def Qd : AV → Bool
 | .v (.int .u8 _) => true
 | _ => false
theorem rm {x : AV} (h : M1 x = true) : x = .v (.int .i8 (AV.int x)) := by
 unfold M1 at h
 split at h
 ·rfl
 ·cases h
theorem vg {x : AV} (h : Qd x = true) : x = .v (.int .u8 (AV.int x)) := by
 unfold Qd at h
 split at h
 ·rfl
 ·cases h
instance : zR Sm := ⟨8, ⟨0, 0, 0, 0, 0, 0, 0, 0⟩,
 fun x => zw [.v (.int .i8 x.A), .v (.int .i8 x.C), .v (.int .i8 x.E), .v (.int .u8 x.B), .v (.int .u8 x.D), .v (.int .u8 x.F), .v (.int .u8 x.N), .v (.int .u8 x.M)],
 fun c => ⟨AV.int (c 0), AV.int (c 1), AV.int (c 2), AV.int (c 3), AV.int (c 4), AV.int (c 5), AV.int (c 6), AV.int (c 7)⟩,
 fun c => M1 (c 0) && (M1 (c 1) && (M1 (c 2) && (Qd (c 3) && (Qd (c 4) && (Qd (c 5) && (Qd (c 6) && Qd (c 7))))))), fun c h j hj => by
 simp only [Bool.and_eq_true] at h
 obtain ⟨h0, h1, h2, h3, h4, h5, h6, h7⟩ := h
 match j, hj with
 | 0, _ => exact ZT (rm h0)
 | 1, _ => exact ZT (rm h1)
 | 2, _ => exact ZT (rm h2)
 | 3, _ => exact ZT (vg h3)
 | 4, _ => exact ZT (vg h4)
 | 5, _ => exact ZT (vg h5)
 | 6, _ => exact ZT (vg h6)
 | 7, _ => exact ZT (vg h7)⟩
instance : Yy Sm := ⟨fun _ => rfl, fun _ => rfl⟩
theorem iA (x : Sm) : yR (AV.agg 8 (zw [.v (.int .i8 x.A), .v (.int .i8 x.C), .v (.int .i8 x.E), .v (.int .u8 x.B), .v (.int .u8 x.D), .v (.int .u8 x.F), .v (.int .u8 x.N), .v (.int .u8 x.M)])) = x := Wa x
theorem Kj (x : Sm) : yp Sm (AV.agg 8 (zw [.v (.int .i8 x.A), .v (.int .i8 x.C), .v (.int .i8 x.E), .v (.int .u8 x.B), .v (.int .u8 x.D), .v (.int .u8 x.F), .v (.int .u8 x.N), .v (.int .u8 x.M)])) = true := X0 x
theorem KT (x : Sm) : yR (AV.agg 8 (zR.enc x)) = x := Wa x
theorem Mb (x : Sm) : yp Sm (AV.agg 8 (zR.enc x)) = true := X0 x
structure G8 (x : Sm) : Prop where
 A : -128 ≤ x.A ∧ x.A ≤ 127
 C : -128 ≤ x.C ∧ x.C ≤ 127
 E : -128 ≤ x.E ∧ x.E ≤ 127
 B : 0 ≤ x.B ∧ x.B ≤ 255
 D : 0 ≤ x.D ∧ x.D ≤ 255
 F : 0 ≤ x.F ∧ x.F ≤ 255
 N : 0 ≤ x.N ∧ x.N ≤ 255
 M : 0 ≤ x.M ∧ x.M ≤ 255
abbrev L0 : Nat := 232792560
structure fS (R n B : Nat) (s : List Tm) : Prop where
 g : gS R s
 len : s.length ≤ n
 pg : pg L0 B s
theorem Rn : zW 1 = [49] := by decide +kernel
end Go.Te

namespace Go.Te
open Go Go.Sx Go.Proofs Go.Ar
set_option maxRecDepth 100000
set_option maxHeartbeats 4000000
theorem sr {R Q : Nat} {t : Tm} (h : ZG R t) (hq : R ≤ Q) : ZG Q t := by obtain ⟨r, e, h0, h1⟩ := h; exact ⟨r, e, h0, Nat.le_trans h1 hq⟩
end Go.Te

namespace Go.Te
open Go Go.Sx Go.Proofs Go.Ar
set_option maxRecDepth 100000
set_option maxHeartbeats 4000000
def Ny (C : List Nat) (V : List Tm) : Prop := ∀ t ∈ V, 0 < mQ t.q → ∃ c ∈ C, 0 < c ∧ ∃ k, c * mQ t.q = k * k
theorem Ps {R : Nat} : ∀ {S : List Tm} {C : List Nat}, (∀ x ∈ S, ZG R x) → S.Pairwise unr → Ny C S → S.length ≤ C.length
 | [], _, _, _, _ => Nat.zero_le _
 | x :: S, C, hn, hu, h => by
  obtain ⟨c, hc, c0, k, hk⟩ := h x List.mem_cons_self (hn x List.mem_cons_self).mQ.2.1
  obtain ⟨p1, p2⟩ := List.pairwise_cons.1 hu
  have ih := Ps (S := S) (C := C.erase c) (fun y hy => hn y (List.mem_cons_of_mem _ hy)) p2 fun y hy h0 => by
   obtain ⟨d, hd, d0, l, hl⟩ := h y (List.mem_cons_of_mem _ hy) h0
   refine ⟨d, (List.mem_erase_of_ne fun e => ?_).2 hd, d0, l, hl⟩
   subst e
   obtain ⟨m, hm⟩ := VG (a := mQ x.q * mQ y.q) (b := k * l) d0 (by
    have e : mQ x.q * mQ y.q * (d * d) = (d * mQ x.q) * (d * mQ y.q) := by grind
    rw [e, hk, hl]; grind)
   exact p1 y hy m hm
  rw [List.length_erase_of_mem hc] at ih
  have : 0 < C.length := List.length_pos_of_mem hc
  rw [List.length_cons]
  omega
structure f1 (D : Nat) (C : List Nat) (s : List Tm) : Prop where
 g : gS 255 s
 mul : Hh L0 D s
 cls : Ny C s
theorem f1.len {D : Nat} {C : List Nat} {s : List Tm} (h : f1 D C s) : s.length ≤ C.length := Ps h.g.nat h.g.unr h.cls
theorem f1.fS {D : Nat} {C : List Nat} {s : List Tm} (h : f1 D C s) : fS 255 C.length (C.length * (D * 255)) s := ⟨h.g, h.len, (jN h.g.nat h.mul).mono (Nat.mul_le_mul_right _ h.len)⟩
end Go.Te

namespace Go.Te
open Go Go.Sx Go.Proofs Go.Ar
set_option maxRecDepth 100000
set_option maxHeartbeats 4000000
structure gL (L R n B : Nat) (s : List Tm) : Prop where
 g : gS R s
 len : s.length ≤ n
 pg : pg L B s
abbrev RP : Nat := 255 * 255
abbrev LP : Nat := L0 * L0
structure fZ (C : List Nat) (n B : Nat) (s t : List Tm) : Prop where
 made : Vw (y7 s t)
 f : gL LP RP C.length (n * B) (YQ (y7 s t))
 cls : Ny C (YQ (y7 s t))
 ev : ∀ f, R7 f → ev f (YQ (y7 s t)) = bi f s t
end Go.Te

namespace Go.Te
open Go Go.Sx Go.Proofs Go.Ar
set_option maxRecDepth 100000
set_option maxHeartbeats 4000000
theorem xm (p q : Rat) : Z5 (AV.xl true 2 1 (Sx.rowAt [zw [AV.str (zW p), AV.str (zW q)]])) = ([⟨p, q⟩] : List Tm) := by
 show ([⟨zo (zW p), zo (zW q)⟩] : List Tm) = _
 simp only [zS]
theorem YU (p q : Rat) : z6 Tm (AV.xl true 2 1 (Sx.rowAt [zw [AV.str (zW p), AV.str (zW q)]])) = true := by
 unfold z6
 rw [Bool.and_eq_true]
 refine ⟨rfl, sI fun i hi => ?_⟩
 match i, hi with
 | 0, _ => exact Yy.ok (⟨p, q⟩ : Tm)
end Go.Te

namespace Go.Te
open Go Go.Sx Go.Proofs Go.Ar
set_option maxRecDepth 100000
set_option maxHeartbeats 4000000
abbrev DC : Nat := 2 * (32768 * 65535)
structure fz (a b : Int) (n : Nat) (s : List Tm) : Prop where
 g : gS 65535 s
 len : s.length ≤ 2
 root : ∀ x ∈ s, mQ x.q = 1 ∨ mQ x.q = (nrm n).2
 mul : Hh 1 DC s
 ev : ∀ f, R7 f → ev f s = a * f 1 + b * f n
end Go.Te

namespace Go.Te
open Go Go.Sx Go.Proofs Go.Ar
set_option maxRecDepth 100000
set_option maxHeartbeats 4000000
end Go.Te

namespace Go.Te
open Go Go.Sx Go.Proofs Go.Ar
set_option maxRecDepth 100000
set_option maxHeartbeats 4000000
def tC (t : Tm) : Rat := t.c * t.c * t.q
theorem nF {P : Rat} (h0 : 0 ≤ P) (hb : (nrm (mQ P)).2 ≤ RM) : (P = 0 → YQ [⟨1, P⟩] = []) ∧ (P ≠ 0 → ∃ u : Tm, YQ [⟨1, P⟩] = [u] ∧ ZG RM u ∧ nrm (mQ u.q) = (1, mQ u.q) ∧ 0 < u.c ∧ tC u = P ∧ ∃ k : Nat, u.c = mkRat k P.den ∧ k * k ≤ mQ P) := by
 constructor
 ·rintro rfl
  decide +kernel
 ·intro hne
  have hp : 0 < P := Rat.lt_of_le_of_ne h0 (Ne.symm hne)
  have hm := tM hp
  obtain ⟨n1, n2, n3, n4⟩ := XF hm
  obtain ⟨l1, l2, l3⟩ := Uu hm
  have hc : (XP ⟨1, P⟩).c = mkRat (nrm (mQ P)).1 P.den := by
   show (1 : Rat) * mkRat (nrm (mQ P)).1 P.den = _
   rw [Rat.one_mul]
  have hq : (XP ⟨1, P⟩).q = (((nrm (mQ P)).2 : Nat) : Rat) := rfl
  have hd : (P.den : Rat) ≠ 0 := fun e => P.den_nz (Rat.natCast_eq_zero_iff.1 e)
  have hk : (XP ⟨1, P⟩).c * (P.den : Rat) = ((nrm (mQ P)).1 : Rat) := by
   rw [hc, Rat.mkRat_eq_div, Rat.intCast_natCast]
   generalize (((nrm (mQ P)).1 : Nat) : Rat) = x
   grind
  have hpd : (0 : Rat) < (P.den : Rat) := Rat.natCast_pos.2 P.den_pos
  have hpk : (0 : Rat) < ((nrm (mQ P)).1 : Rat) := Rat.natCast_pos.2 n2
  have hc0 : 0 < (XP ⟨1, P⟩).c := by
   rcases Decidable.em (0 < (XP ⟨1, P⟩).c) with h | h
   ·exact h
   ·have h1 := Rat.mul_le_mul_of_nonneg_right (Rat.not_lt.1 h) (Rat.le_of_lt hpd)
    rw [hk, Rat.zero_mul] at h1
    exact absurd hpk (Rat.not_lt.2 h1)
  have hv : ((nrm (mQ P)).1 : Rat) * ((nrm (mQ P)).1 : Rat) * ((nrm (mQ P)).2 : Rat) = P * (P.den : Rat) * (P.den : Rat) := by
   have e : ((mQ P : Nat) : Rat) = P * (P.den : Rat) * (P.den : Rat) := by
    have h1 : P * (P.den : Rat) = (P.num : Rat) := by
     have h2 := Rat.mkRat_self P
     rw [Rat.mkRat_eq_div] at h2
     generalize (P.num : Rat) = x at *
     generalize (P.den : Rat) = d at *
     rw [← h2]
     grind
    rw [h1]
    unfold mQ
    rw [Rat.natCast_mul, ← Rat.intCast_natCast P.num.toNat, Int.toNat_of_nonneg (Rat.num_nonneg.2 h0)]
   rw [← e]
   conv => rhs; rw [← n1]
   rw [Rat.natCast_mul, Rat.natCast_mul]
  have e1 : xY [⟨1, P⟩] = [XP ⟨1, P⟩] := by
   unfold xY
   rw [List.filter_cons, if_pos (by rw [decide_eq_true (show (⟨1, P⟩ : Tm).q ≠ 0 from hne)]; rfl), List.filter_nil]
   rfl
  refine ⟨XP ⟨1, P⟩, ?_, ⟨_, hq, n3, hb⟩, by rw [hq, WX]; exact n4, hc0, ?_, (nrm (mQ P)).1, hc, l1⟩
  ·unfold YQ Y7
   rw [e1]
   show Wq (([XP ⟨1, P⟩] : List Tm).filter _) = _
   rw [List.filter_cons, if_pos (by simpa using fun e => Rat.ne_of_gt hc0 e), List.filter_nil]
   rfl
  ·unfold tC
   rw [hq]
   generalize (XP ⟨1, P⟩).c = c at *
   generalize (((nrm (mQ P)).2 : Nat) : Rat) = m at *
   rw [← hk] at hv
   generalize (P.den : Rat) = d at *
   have : (c * c * m - P) * (d * d) = 0 := by grind
   rcases Rat.mul_eq_zero.1 this with h | h
   ·grind
   ·rcases Rat.mul_eq_zero.1 h with h | h <;> exact absurd h hd
theorem U2 {a b : Nat} (h : a ≤ b) : a * a ≤ b * b := Nat.mul_le_mul h h
theorem SV {t : Tm} (hn : ZG RM t) (N : Nat) : tC t * ((10 ^ (2 * N) : Nat) : Rat) * ((t.c.den : Rat) * (t.c.den : Rat)) = ((wI t N : Nat) : Rat) := by
 have hq := hn.mQ.1
 have hc : t.c * (t.c.den : Rat) = (t.c.num : Rat) := by
  have h2 := Rat.mkRat_self t.c
  have hd : (t.c.den : Rat) ≠ 0 := fun e => t.c.den_nz (Rat.natCast_eq_zero_iff.1 e)
  rw [Rat.mkRat_eq_div] at h2
  generalize (t.c.num : Rat) = x at *
  generalize (t.c.den : Rat) = d at *
  rw [← h2]
  grind
 have hs : ((t.c.num.natAbs * t.c.num.natAbs : Nat) : Rat) = (t.c.num : Rat) * (t.c.num : Rat) := by
  rw [← Rat.intCast_natCast, Int.natCast_mul, Int.natAbs_mul_self', Rat.intCast_mul]
 unfold wI tC
 rw [Rat.natCast_mul, Rat.natCast_mul, hs, ← hc, ← hq]
 generalize ((10 ^ (2 * N) : Nat) : Rat) = K
 generalize (t.c.den : Rat) = d
 grind
theorem Qi (c : Rat) : (0 : Rat) < (c.den : Rat) * (c.den : Rat) := Rat.mul_pos (Rat.natCast_pos.2 c.den_pos) (Rat.natCast_pos.2 c.den_pos)
theorem mV {t : Tm} (hn : ZG RM t) {N f : Nat} (h : (t.c.den * f) * (t.c.den * f) ≤ wI t N) : (f : Rat) * (f : Rat) ≤ tC t * ((10 ^ (2 * N) : Nat) : Rat) := by
 refine Rat.le_of_mul_le_mul_right ?_ (Qi t.c)
 rw [SV hn]
 have := Rat.natCast_le_natCast.2 h
 rw [Rat.natCast_mul, Rat.natCast_mul] at this
 generalize (t.c.den : Rat) = d at *
 grind
theorem Hw {t : Tm} (hn : ZG RM t) {N f : Nat} (h : wI t N < (t.c.den * f) * (t.c.den * f)) : tC t * ((10 ^ (2 * N) : Nat) : Rat) < (f : Rat) * (f : Rat) := by
 refine Rat.lt_of_mul_lt_mul_right ?_ (Rat.le_of_lt (Qi t.c))
 rw [SV hn]
 have := Rat.natCast_lt_natCast.2 h
 rw [Rat.natCast_mul, Rat.natCast_mul] at this
 generalize (t.c.den : Rat) = d at *
 grind
theorem jq {t : Tm} (hn : ZG RM t) {N f : Nat} (h : wI t N ≤ (t.c.den * f) * (t.c.den * f)) : tC t * ((10 ^ (2 * N) : Nat) : Rat) ≤ (f : Rat) * (f : Rat) := by
 refine Rat.le_of_mul_le_mul_right ?_ (Qi t.c)
 rw [SV hn]
 have := Rat.natCast_le_natCast.2 h
 rw [Rat.natCast_mul, Rat.natCast_mul] at this
 generalize (t.c.den : Rat) = d at *
 grind
theorem LW {t : Tm} (hn : ZG RM t) (hc : 0 < t.c) (N : Nat) : ∃ f : Nat, uZ t N = (f : Int) ∧ (f : Rat) * (f : Rat) ≤ tC t * ((10 ^ (2 * N) : Nat) : Rat) ∧ tC t * ((10 ^ (2 * N) : Nat) : Rat) < ((f + 1 : Nat) : Rat) * ((f + 1 : Nat) : Rat) := by
 obtain ⟨s1, s2⟩ := YO (wI t N)
 have d0 := t.c.den_pos
 have h1 : t.c.den * (ZE (wI t N) / t.c.den) ≤ ZE (wI t N) := Nat.mul_div_le _ _
 have h2 : ZE (wI t N) + 1 ≤ t.c.den * (ZE (wI t N) / t.c.den + 1) := Nat.lt_mul_div_succ _ d0
 refine ⟨ZE (wI t N) / t.c.den, ?_, mV hn (Nat.le_trans (U2 h1) s1), Hw hn (Nat.lt_of_lt_of_le s2 (U2 h2))⟩
 unfold uZ
 rw [if_pos (Rat.num_nonneg.2 (Rat.le_of_lt hc))]
theorem lL {t : Tm} (hn : ZG RM t) (hc : t.c < 0) (N : Nat) : ∃ g : Nat, uZ t N = -(g + 1 : Int) ∧ (g : Rat) * (g : Rat) ≤ tC t * ((10 ^ (2 * N) : Nat) : Rat) ∧ tC t * ((10 ^ (2 * N) : Nat) : Rat) ≤ ((g + 1 : Nat) : Rat) * ((g + 1 : Nat) : Rat) := by
 obtain ⟨s1, s2⟩ := YO (wI t N)
 have d0 := t.c.den_pos
 have h1 : t.c.den * (ZE (wI t N) / t.c.den) ≤ ZE (wI t N) := Nat.mul_div_le _ _
 have h2 : ZE (wI t N) + 1 ≤ t.c.den * (ZE (wI t N) / t.c.den + 1) := Nat.lt_mul_div_succ _ d0
 have hneg : ¬0 ≤ t.c.num := fun h => absurd (Rat.num_nonneg.1 h) (Rat.not_le.2 hc)
 have hS : 0 < wI t N := by
  unfold wI
  have : 0 < t.c.num.natAbs := by omega
  exact Nat.mul_pos (Nat.mul_pos (Nat.mul_pos this this) hn.mQ.2.1) (Nat.pow_pos (by decide))
 unfold uZ
 rw [if_neg hneg]
 split
 ·rename_i h
  have e : ZE (wI t N) = t.c.den * (ZE (wI t N) / t.c.den) := (Nat.mul_div_cancel' (Nat.dvd_of_mod_eq_zero h.2)).symm
  have p0 : 0 < ZE (wI t N) / t.c.den := Nat.pos_of_ne_zero fun e0 => by
   rw [e0, Nat.mul_zero] at e
   rw [e] at h
   have := h.1
   omega
  generalize ZE (wI t N) = r at *
  generalize hf : r / t.c.den = f at *
  refine ⟨f - 1, by omega, mV hn (Nat.le_trans (U2 (Nat.le_trans (Nat.mul_le_mul_left _ (Nat.sub_le _ _)) h1)) s1), jq hn ?_⟩
  rw [show f - 1 + 1 = f by omega, ← e, h.1]
  exact Nat.le_refl _
 ·refine ⟨ZE (wI t N) / t.c.den, rfl, mV hn (Nat.le_trans (U2 h1) s1), jq hn (Nat.le_of_lt (Nat.lt_of_lt_of_le s2 (U2 h2)))⟩
end Go.Te

namespace Go.Te
open Go Go.Sx Go.Proofs Go.Ar
set_option maxRecDepth 100000
set_option maxHeartbeats 4000000
end Go.Te

namespace Go.Te
open Go Go.Sx Go.Proofs Go.Ar
set_option maxRecDepth 100000
set_option maxHeartbeats 4000000
end Go.Te
