/- kingpostlaw04: text, of. -/
import Derived.Test.YthbpnknhfokadaaGreatDoorThQi
import Derived.Test.YthbpnknhfokadaaGreatDoorArAB
import Derived.ChangeArms
import Derived.Lib.LaidTab
import Derived.Test.YthbpnknhfokadaaGreatDoorCards
import Derived.Test.YthbpnknhfokadaaGreatDoorTie
import Derived.WalkKit
import Derived.ProofKit
import Derived.OpenShut
import Derived.WideKeyArgs
import Derived.Deep.DeepHandedRow
set_option linter.unusedSimpArgs false
set_option linter.unusedVariables false
namespace Go.Te
open Go Go.Sx Go.Proofs Go.Ar
set_option maxRecDepth 100000
set_option maxHeartbeats 4000000
theorem Qc {l : List Tm} {R L B : Nat} (hl : l.length ≤ 256) (ho : (Zb l).length ≤ 16) (hR : R < 10 ^ 15) (hn : ∀ t ∈ l, nat0 R t) (hi : inT RM l) (hc : ∀ t ∈ l, bq 60 t.c) (hL : 0 < L) (hp : pg L B l) (h1 : B * RM < 10 ^ 60) (h2 : L * RM < 10 ^ 60) : wk l := by
 refine ⟨hl, hc, fun t ht h0 => ?_, hi, R4 (by decide) hi hL hp h1 h2, ho⟩
 obtain ⟨r, e, hr⟩ := hn t ht
 have hr0 : r ≠ 0 := fun e0 => h0 (by rw [e, e0]; rfl)
 have b1 : bq 15 t.q := by
  rw [e]
  exact ⟨by rw [Rat.num_natCast, Int.natAbs_natCast]; omega, by rw [Rat.den_natCast]; decide⟩
 refine ⟨(ZL (by decide) (by decide)).2 (b1.mono (by decide)), ?_, ?_⟩
 ·rw [zm, e]
  exact Rat.lt_of_le_of_ne Rat.natCast_nonneg fun e => hr0 (Rat.natCast_eq_zero_iff.1 e.symm)
 ·rw [zm]
  have a1 : xa t.q.num ≤ 15 := Ya (by decide) b1.num
  have a2 : Lib.nDigits t.q.den ≤ 1 := (z7 (by decide)).2 (by rw [e, Rat.den_natCast]; decide)
  omega
def Rf (n d : Int) : Rat := mkRat n (d.toNat % 20 + 1)
structure Zm where
 a : Int
 b : Nat
 k : Nat
end Go.Te

namespace Go.Te
open Go Go.Sx Go.Proofs Go.Ar
set_option maxRecDepth 100000
set_option maxHeartbeats 4000000
structure Sm where
 A : Int
 C : Int
 E : Int
 B : Int
 D : Int
 F : Int
 N : Int
 M : Int
def mJ : AV → Bool
 | .v (.int .i8 _) => true
 | _ => false
def qP : AV → Bool
 | .v (.int .u8 _) => true
 | _ => false
theorem SH {x : AV} (h : mJ x = true) : x = .v (.int .i8 (AV.int x)) := by
 unfold mJ at h
 split at h
 ·rfl
 ·cases h
theorem vk {x : AV} (h : qP x = true) : x = .v (.int .u8 (AV.int x)) := by
 unfold qP at h
 split at h
 ·rfl
 ·cases h
instance : zS Sm := ⟨8, ⟨0, 0, 0, 0, 0, 0, 0, 0⟩,
 fun x => zw [.v (.int .i8 x.A), .v (.int .i8 x.C), .v (.int .i8 x.E), .v (.int .u8 x.B), .v (.int .u8 x.D), .v (.int .u8 x.F), .v (.int .u8 x.N), .v (.int .u8 x.M)],
 fun c => ⟨AV.int (c 0), AV.int (c 1), AV.int (c 2), AV.int (c 3), AV.int (c 4), AV.int (c 5), AV.int (c 6), AV.int (c 7)⟩,
 fun c => mJ (c 0) && (mJ (c 1) && (mJ (c 2) && (qP (c 3) && (qP (c 4) && (qP (c 5) && (qP (c 6) && qP (c 7))))))), fun c h j hj => by
 simp only [Bool.and_eq_true] at h
 obtain ⟨h0, h1, h2, h3, h4, h5, h6, h7⟩ := h
 match j, hj with
 | 0, _ => exact ZT (SH h0)
 | 1, _ => exact ZT (SH h1)
 | 2, _ => exact ZT (SH h2)
 | 3, _ => exact ZT (vk h3)
 | 4, _ => exact ZT (vk h4)
 | 5, _ => exact ZT (vk h5)
 | 6, _ => exact ZT (vk h6)
 | 7, _ => exact ZT (vk h7)⟩
instance : yc Sm := ⟨fun _ => rfl, fun _ => rfl⟩
theorem mg (x : Sm) : yR (AV.agg 8 (zw [.v (.int .i8 x.A), .v (.int .i8 x.C), .v (.int .i8 x.E), .v (.int .u8 x.B), .v (.int .u8 x.D), .v (.int .u8 x.F), .v (.int .u8 x.N), .v (.int .u8 x.M)])) = x := WN x
theorem Pv (x : Sm) : yp Sm (AV.agg 8 (zw [.v (.int .i8 x.A), .v (.int .i8 x.C), .v (.int .i8 x.E), .v (.int .u8 x.B), .v (.int .u8 x.D), .v (.int .u8 x.F), .v (.int .u8 x.N), .v (.int .u8 x.M)])) = true := X7 x
theorem pJ (x : Sm) : yR (AV.agg 8 (zS.enc x)) = x := WN x
theorem rI (x : Sm) : yp Sm (AV.agg 8 (zS.enc x)) = true := X7 x
structure Gv (x : Sm) : Prop where
 A : -128 ≤ x.A ∧ x.A ≤ 127
 C : -128 ≤ x.C ∧ x.C ≤ 127
 E : -128 ≤ x.E ∧ x.E ≤ 127
 B : 0 ≤ x.B ∧ x.B ≤ 255
 D : 0 ≤ x.D ∧ x.D ≤ 255
 F : 0 ≤ x.F ∧ x.F ≤ 255
 N : 0 ≤ x.N ∧ x.N ≤ 255
 M : 0 ≤ x.M ∧ x.M ≤ 255
abbrev L0 : Nat := 232792560
theorem RX {R Q : Nat} {l : List Tm} (h : inT R l) (hq : R ≤ Q) : inT Q l := fun t ht => ⟨(h t ht).1, Nat.le_trans (h t ht).2 hq⟩
structure fS (R n B : Nat) (s : List Tm) : Prop where
 g : gS R s
 len : s.length ≤ n
 pg : pg L0 B s
theorem KI : zt 1 = [49] := by decide +kernel
end Go.Te

namespace Go.Te
open Go Go.Sx Go.Proofs Go.Ar
set_option maxRecDepth 100000
set_option maxHeartbeats 4000000
theorem Wt {R Q : Nat} {t : Tm} (h : ZZ R t) (hq : R ≤ Q) : ZZ Q t := by obtain ⟨r, e, h0, h1⟩ := h; exact ⟨r, e, h0, Nat.le_trans h1 hq⟩
theorem MA {R Q : Nat} {s : List Tm} (h : gS R s) (hq : R ≤ Q) : gS Q s := ⟨fun x hx => Wt (h.nat x hx) hq, h.ne, h.nrm, h.unr, h.le⟩
theorem Np {R : Nat} {s t : List Tm} (hs : ∀ x ∈ s, ZZ R x) (ht : ∀ x ∈ t, ZZ R x) : ∀ x ∈ s ++ t, ZZ R x := fun x hx => (List.mem_append.1 hx).elim (hs x) (ht x)
theorem mH {R : Nat} {k : Rat} {s : List Tm} (hs : ∀ x ∈ s, ZZ R x) : ∀ x ∈ Zl k s, ZZ R x := fun x hx => by
 unfold Zl at hx
 obtain ⟨u, hu, rfl⟩ := List.mem_map.1 hx
 exact hs u hu
theorem Jl {K : Nat} {s t : List Tm} (hs : ∀ x ∈ s, bq K x.c) (ht : ∀ x ∈ t, bq K x.c) : ∀ x ∈ s ++ t, bq K x.c := fun x hx => (List.mem_append.1 hx).elim (hs x) (ht x)
theorem J9 {K : Nat} {s : List Tm} (hs : ∀ x ∈ s, bq K x.c) : ∀ x ∈ Zl (-1) s, bq K x.c := fun x hx => by
 unfold Zl at hx
 obtain ⟨u, hu, rfl⟩ := List.mem_map.1 hx
 have h := iV (hs u hu)
 show bq K (u.c * -1)
 rwa [show u.c * -1 = -u.c by grind]
theorem Q6 (k : Rat) (s : List Tm) : (Zl k s).length = s.length := by unfold Zl; rw [List.length_map]
end Go.Te

namespace Go.Te
open Go Go.Sx Go.Proofs Go.Ar
set_option maxRecDepth 100000
set_option maxHeartbeats 4000000
def mc (C : List Nat) (V : List Tm) : Prop := ∀ t ∈ V, 0 < mQ t.q → ∃ c ∈ C, 0 < c ∧ ∃ k, c * mQ t.q = k * k
theorem pW {R : Nat} : ∀ {S : List Tm} {C : List Nat}, (∀ x ∈ S, ZZ R x) → S.Pairwise unr → mc C S → S.length ≤ C.length
 | [], _, _, _, _ => Nat.zero_le _
 | x :: S, C, hn, hu, h => by
  obtain ⟨c, hc, c0, k, hk⟩ := h x List.mem_cons_self (hn x List.mem_cons_self).mQ.2.1
  obtain ⟨p1, p2⟩ := List.pairwise_cons.1 hu
  have ih := pW (S := S) (C := C.erase c) (fun y hy => hn y (List.mem_cons_of_mem _ hy)) p2 fun y hy h0 => by
   obtain ⟨d, hd, d0, l, hl⟩ := h y (List.mem_cons_of_mem _ hy) h0
   refine ⟨d, (List.mem_erase_of_ne fun e => ?_).2 hd, d0, l, hl⟩
   subst e
   obtain ⟨m, hm⟩ := Vs (a := mQ x.q * mQ y.q) (b := k * l) d0 (by
    have e : mQ x.q * mQ y.q * (d * d) = (d * mQ x.q) * (d * mQ y.q) := by grind
    rw [e, hk, hl]; grind)
   exact p1 y hy m hm
  rw [List.length_erase_of_mem hc] at ih
  have : 0 < C.length := List.length_pos_of_mem hc
  rw [List.length_cons]
  omega
theorem PY {R Q L D r : Nat} : ∀ {V : List Tm}, (∀ t ∈ V, nat0 R t) → sV L D V → (∀ t ∈ V, ∃ m, m ≤ Q ∧ fR r (mQ t.q) = ((m * r : Nat) : Rat)) → ∃ z : Int, ev (fR r) V * (L : Rat) = (z : Rat) * (r : Rat) ∧ z.natAbs ≤ V.length * (D * Q)
 | [], _, _, _ => ⟨0, by rw [Z9, Rat.zero_mul]; exact (Rat.zero_mul _).symm, Nat.zero_le _⟩
 | t :: V, h, g, d => by
  obtain ⟨z, h1, h2⟩ := PY (fun x hx => h x (List.mem_cons_of_mem _ hx)) (fun x hx => g x (List.mem_cons_of_mem _ hx)) fun x hx => d x (List.mem_cons_of_mem _ hx)
  obtain ⟨y, g1, g2⟩ := g t List.mem_cons_self
  obtain ⟨m, m2, m1⟩ := d t List.mem_cons_self
  obtain ⟨f1, _, _⟩ := (h t List.mem_cons_self).fQ (fR r)
  refine ⟨y * m + z, ?_, ?_⟩
  ·rw [Zq, f1, m1, Rat.intCast_add, Rat.intCast_mul, ← g1, Rat.intCast_natCast, Rat.natCast_mul, Rat.add_mul, h1]
   grind
  ·have a1 := Int.natAbs_add_le (y * m) z
   have a2 : (y * m).natAbs ≤ D * Q := by rw [Int.natAbs_mul, Int.natAbs_natCast]; exact Nat.mul_le_mul g2 m2
   rw [List.length_cons, Nat.add_mul, Nat.one_mul]
   omega
theorem oS {T R Q L D : Nat} {S V : List Tm} (hn : ∀ x ∈ S, ZZ T x) (hu : S.Pairwise unr) (he : ∀ f, tR f → ev f S = ev f V) (h0 : ∀ t ∈ V, nat0 R t) (hm : sV L D V) (hd : ∀ x ∈ S, ∀ t ∈ V, ∃ m, m ≤ Q ∧ fR (mQ x.q) (mQ t.q) = ((m * mQ x.q : Nat) : Rat)) : sV L (V.length * (D * Q)) S := fun x hx => by
 obtain ⟨z, h1, h2⟩ := PY (r := mQ x.q) h0 hm (hd x hx)
 rw [← he _ (Vh _), VS hn hu hx] at h1
 have p0 := (hn x hx).mQ.2.1
 have hr : ((mQ x.q : Nat) : Rat) ≠ 0 := fun e => by have := Rat.natCast_eq_zero_iff.1 e; omega
 refine ⟨z, ?_, h2⟩
 generalize ((mQ x.q : Nat) : Rat) = r at *
 have : r * (x.c * (L : Rat)) = r * (z : Rat) := by grind
 grind
structure f1 (D : Nat) (C : List Nat) (s : List Tm) : Prop where
 g : gS 255 s
 mul : sV L0 D s
 cls : mc C s
theorem f1.len {D : Nat} {C : List Nat} {s : List Tm} (h : f1 D C s) : s.length ≤ C.length := pW h.g.nat h.g.unr h.cls
theorem f1.fS {D : Nat} {C : List Nat} {s : List Tm} (h : f1 D C s) : fS 255 C.length (C.length * (D * 255)) s := ⟨h.g, h.len, (Q9 h.g.nat h.mul).mono (Nat.mul_le_mul_right _ h.len)⟩
end Go.Te

namespace Go.Te
open Go Go.Sx Go.Proofs Go.Ar
set_option maxRecDepth 100000
set_option maxHeartbeats 4000000
structure gL (L R n B : Nat) (s : List Tm) : Prop where
 g : gS R s
 len : s.length ≤ n
 pg : pg L B s
theorem Jc {l : List Tm} {L B : Nat} (hL : 0 < L ∧ L * RM < 10 ^ 60) (hl : l.length ≤ 256) (ho : (Zb l).length ≤ 16) (hn : ∀ t ∈ l, ZZ RM t) (hc : ∀ t ∈ l, bq 60 t.c) (hp : pg L B l) (h1 : B * RM < 10 ^ 60) : wk l := by
 have hi : inT RM l := fun t ht => Xj (hn t ht)
 exact ⟨hl, hc, fun t ht _ => Om (hn t ht), hi, R4 (by decide) hi hL.1 hp h1 hL.2, ho⟩
abbrev RP : Nat := 255 * 255
abbrev LP : Nat := L0 * L0
structure Gu (C : List Nat) (n B : Nat) (s t : List Tm) : Prop where
 made : wk (yV s t)
 f : gL LP RP C.length (n * B) (Zb (yV s t))
 cls : mc C (Zb (yV s t))
 ev : ∀ f, tR f → ev f (Zb (yV s t)) = bi f s t
end Go.Te

namespace Go.Te
open Go Go.Sx Go.Proofs Go.Ar
set_option maxRecDepth 100000
set_option maxHeartbeats 4000000
theorem I5 (p q : Rat) : Ze (AV.xl true 2 1 (Sx.rowAt [zw [AV.str (zt p), AV.str (zt q)]])) = ([⟨p, q⟩] : List Tm) := by
 show ([⟨zD (zt p), zD (zt q)⟩] : List Tm) = _
 simp only [zm]
theorem K8 (p q : Rat) : zC Tm (AV.xl true 2 1 (Sx.rowAt [zw [AV.str (zt p), AV.str (zt q)]])) = true := by
 unfold zC
 rw [Bool.and_eq_true]
 refine ⟨rfl, uQ fun i hi => ?_⟩
 match i, hi with
 | 0, _ => exact yc.ok (⟨p, q⟩ : Tm)
end Go.Te

namespace Go.Te
open Go Go.Sx Go.Proofs Go.Ar
set_option maxRecDepth 100000
set_option maxHeartbeats 4000000
theorem ib {R : Nat} (hR : R < 18446744073709551616) {l : List Tm} (h : inT R l) {P : Rat → Prop} (hP : ∀ t ∈ l, 0 < mQ t.q → P (((nrm (mQ t.q)).2 : Nat) : Rat)) : ∀ x ∈ Zb l, P x.q := fun x hx => by
 have hx := (YF (Yo l)).mem_iff.1 hx
 have hx := (List.mem_filter.1 hx).1
 obtain ⟨_, _, a3, _, _⟩ := Vw hR (P := P) _ rfl (Sy h).1 fun t ht => by
  unfold YU at ht
  obtain ⟨u, hu, rfl⟩ := List.mem_map.1 ht
  obtain ⟨hu1, hu2⟩ := List.mem_filter.1 hu
  rw [Bool.and_eq_true, decide_eq_true_iff, decide_eq_true_iff] at hu2
  exact hP u hu1 (Vx (Rat.lt_of_le_of_ne (h u hu1).1 (Ne.symm hu2.2)))
 exact a3 x hx
def Qw (a b : Int) (n : Nat) : List Tm := [⟨(a : Rat), 1⟩, ⟨(b : Rat), (n : Rat)⟩]
theorem UY (a b : Int) (n : Nat) (hn : n ≤ 65535) : ∀ t ∈ Qw a b n, nat0 65535 t := fun t ht => by
 unfold Qw at ht
 simp only [List.mem_cons, List.not_mem_nil, or_false] at ht
 rcases ht with rfl | rfl
 ·exact ⟨1, rfl, by omega⟩
 ·exact ⟨n, rfl, hn⟩
theorem Qr {a b : Int} {n : Nat} (ha : a.natAbs ≤ 32768) (hb : b.natAbs ≤ 32768) : sV 1 32768 (Qw a b n) := fun t ht => by
 have e : ∀ q : Rat, q * ((1 : Nat) : Rat) = q := fun q => Rat.mul_one q
 unfold Qw at ht
 simp only [List.mem_cons, List.not_mem_nil, or_false] at ht
 rcases ht with rfl | rfl
 ·exact ⟨a, e _, ha⟩
 ·exact ⟨b, e _, hb⟩
theorem Kk {a b : Int} {n : Nat} (hn : n ≤ 65535) : inT 65535 (Qw a b n) := fun t ht => by
 obtain ⟨h0, h1⟩ := (UY a b n hn t ht).in_
 exact ⟨h0, by omega⟩
abbrev DC : Nat := 2 * (32768 * 65535)
theorem KL {a b : Int} {n : Nat} (ha : a.natAbs ≤ 32768) (hb : b.natAbs ≤ 32768) (hn : n ≤ 65535) : wk (Qw a b n) := by
 have hi := RX (Kk (a := a) (b := b) hn) (show 65535 ≤ RM by decide)
 exact Qc (R := 65535) (L := 1) (B := 2 * (32768 * 65535)) (show 2 ≤ 256 by decide) (Nat.le_trans (YH (by decide) hi).2.1 (show 2 ≤ 16 by decide)) (by decide) (UY a b n hn) hi (fun t ht => pE (by decide) (Qr ha hb t ht) (by decide) (by decide)) (by decide) (qh (UY a b n hn) (Qr ha hb)) (by decide) (by decide)
structure ii (a b : Int) (n : Nat) (s : List Tm) : Prop where
 g : gS 65535 s
 len : s.length ≤ 2
 root : ∀ x ∈ s, mQ x.q = 1 ∨ mQ x.q = (nrm n).2
 mul : sV 1 DC s
 ev : ∀ f, tR f → ev f s = a * f 1 + b * f n
theorem It {a b : Int} {n : Nat} (ha : a.natAbs ≤ 32768) (hb : b.natAbs ≤ 32768) (hn : n ≤ 65535) : ii a b n (Zb (Qw a b n)) := by
 have hi := Kk (a := a) (b := b) hn
 obtain ⟨h1, h2, h3⟩ := YH (by decide) hi
 have n1 : nrm 1 = (1, 1) := by decide +kernel
 have q1 : mQ (1 : Rat) = 1 := by decide +kernel
 have hr : ∀ x ∈ Zb (Qw a b n), mQ x.q = 1 ∨ 0 < n ∧ mQ x.q = (nrm n).2 := ib (P := fun q => mQ q = 1 ∨ 0 < n ∧ mQ q = (nrm n).2) (by decide) hi fun t ht h0 => by
  unfold Qw at ht
  simp only [List.mem_cons, List.not_mem_nil, or_false] at ht
  rcases ht with rfl | rfl
  ·left
   show mQ (((nrm (mQ 1)).2 : Nat) : Rat) = 1
   rw [q1, n1, Y4]
  ·right
   have h0 : 0 < mQ (n : Rat) := h0
   rw [Y4] at h0
   refine ⟨h0, ?_⟩
   show mQ (((nrm (mQ (n : Rat))).2 : Nat) : Rat) = _
   rw [Y4, Y4]
 refine ⟨h1, h2, fun x hx => (hr x hx).imp id (·.2), oS h1.nat h1.unr h3 (UY a b n hn) (Qr ha hb) fun x hx t ht => ?_, fun f hf => ?_⟩
 ·have hm := ((UY a b n hn t ht).fQ (fun _ => 0)).2.1
  rcases hr x hx with h | ⟨hn0, h⟩
  ·rw [h]
   by_cases hs : ∃ j, mQ t.q * 1 = j * j
   ·obtain ⟨j, hj⟩ := hs
    refine ⟨j, ?_, by rw [WB hj, Nat.mul_one]⟩
    have : j ≤ j * j := by
     rcases Nat.eq_zero_or_pos j with rfl | h
     ·omega
     ·exact Nat.le_mul_of_pos_left _ h
    omega
   ·exact ⟨0, by omega, by rw [V6 fun k hk => hs ⟨k, hk⟩, Nat.zero_mul]; rfl⟩
  ·obtain ⟨k1, k2, k3, k4⟩ := Wv hn0
   obtain ⟨l1, l2, l3⟩ := W8 hn0
   rw [h]
   unfold Qw at ht
   simp only [List.mem_cons, List.not_mem_nil, or_false] at ht
   rcases ht with rfl | rfl
   ·show ∃ m, m ≤ 65535 ∧ fR (nrm n).2 (mQ 1) = ((m * (nrm n).2 : Nat) : Rat)
    rw [q1]
    by_cases hs : ∃ j, 1 * (nrm n).2 = j * j
    ·obtain ⟨j, hj⟩ := hs
     rw [Nat.one_mul] at hj
     have j0 : 0 < j := Nat.pos_of_ne_zero fun e => by rw [e] at hj; omega
     have e := sB j0 (show j * j < 18446744073709551616 by omega)
     have e1 : (nrm n).2 = 1 := by rw [← hj, k4] at e; exact (Prod.mk.inj e).2
     rw [e1]
     exact ⟨1, by omega, WB (r := 1) (n := 1) (k := 1) rfl⟩
    ·exact ⟨0, by omega, by rw [V6 fun k hk => hs ⟨k, hk⟩, Nat.zero_mul]; rfl⟩
   ·show ∃ m, m ≤ 65535 ∧ fR (nrm n).2 (mQ (n : Rat)) = ((m * (nrm n).2 : Nat) : Rat)
    rw [Y4]
    have e : n * (nrm n).2 = ((nrm n).1 * (nrm n).2) * ((nrm n).1 * (nrm n).2) := by
     clear k4 h hr hm l1 l2 l3
     generalize nrm n = p at *
     rw [← k1]
     grind
    exact ⟨(nrm n).1, Nat.le_trans l3 hn, WB e⟩
 ·rw [h3 f hf]
  unfold Qw
  rw [Zq, Zq, Z9, Yp, show fQ f 1 = f 1 from Yp f 1]
  grind
theorem Oh (f : Nat → Rat) (p q : Rat) (n : Nat) : ∀ {R : Nat} {s : List Tm}, (∀ x ∈ s, ZZ R x) → bi f s [⟨p, 1⟩, ⟨q, (n : Rat)⟩] = p * ev f s + q * ev (fun k => f (n * k)) s
 | _, [], _ => by rw [HS, Z9, Z9]; grind
 | R, x :: s, h => by
  have hx := (h x List.mem_cons_self).mQ.1
  have e1 : fQ f x.q = f (mQ x.q) := by conv => lhs; rw [hx]
                                        rw [Yp]
  have e2 : fQ (fun k => f (n * k)) x.q = f (n * mQ x.q) := by conv => lhs; rw [hx]
                                                               rw [Yp]
  rw [Hc, Oh f p q n fun y hy => h y (List.mem_cons_of_mem _ hy), Zq, Zq, Zq, Zq, Z9, e1, e2, Yp, show fQ (fun k => f (mQ x.q * k)) 1 = f (mQ x.q * 1) from Yp _ 1, Nat.mul_one, Nat.mul_comm n]
  grind
theorem HX {a b : Int} {n : Nat} {s t : List Tm} (hs : ii a b n s) (ht : ii a (-b) n t) {f : Nat → Rat} (hf : tR f) : bi f s t = ((a * a - b * b * (n : Int) : Int) : Rat) * f 1 := by
 have e1 : bi f s t = bi f s (Qw a (-b) n) := by
  have h := NX hf (t := t) (u := Qw a (-b) n) (v := []) (fun g hg => by
   rw [Z9, ht.ev g hg]
   unfold Qw
   rw [Zq, Zq, Z9, Yp, show fQ g 1 = g 1 from Yp g 1]
   grind) s
  rw [h, nV]
  grind
 have e2 := Oh f (a : Rat) ((-b : Int) : Rat) n hs.g.nat
 have e3 := hs.ev _ (Q5 hf n)
 have e4 : f (n * n) = (n : Rat) * f 1 := by rw [← hf n 1, Nat.mul_one]
 rw [e1]
 show bi f s [⟨(a : Rat), 1⟩, ⟨((-b : Int) : Rat), (n : Rat)⟩] = _
 rw [e2, hs.ev f hf, e3, e4, Nat.mul_one, Rat.intCast_sub, Rat.intCast_mul, Rat.intCast_mul, Rat.intCast_mul, Rat.intCast_natCast, Rat.intCast_neg]
 grind
theorem ki {a b : Int} {n : Nat} {s t : List Tm} (hs : ii a b n s) (ht : ii a (-b) n t) : wk (yV s t) ∧ gS RM (Zb (yV s t)) ∧ Zb (yV s t) = if ((a * a - b * b * (n : Int) : Int) : Rat) = 0 then [] else [⟨((a * a - b * b * (n : Int) : Int) : Rat), 1⟩] := by
 have hR : ∀ x ∈ s, mQ x.q ≤ 65535 ∧ 0 < mQ x.q ∧ nrm (mQ x.q) = (1, mQ x.q) := fun x hx => ⟨(hs.g.nat x hx).mQ.2.2, (hs.g.nat x hx).mQ.2.1, hs.g.nrm x hx⟩
 have hT : ∀ x ∈ t, mQ x.q ≤ 65535 ∧ 0 < mQ x.q ∧ nrm (mQ x.q) = (1, mQ x.q) := fun x hx => ⟨(ht.g.nat x hx).mQ.2.2, (ht.g.nat x hx).mQ.2.1, ht.g.nrm x hx⟩
 have hm : sV 1 (DC * DC) (yV s t) := fun x hx => by
  obtain ⟨u, hu, hx⟩ := List.mem_flatMap.1 hx
  obtain ⟨v, hv, rfl⟩ := List.mem_map.1 hx
  obtain ⟨y, y1, y2⟩ := hs.mul u hu
  obtain ⟨z, z1, z2⟩ := ht.mul v hv
  have e : ∀ q : Rat, q * ((1 : Nat) : Rat) = q := fun q => Rat.mul_one q
  rw [e] at y1 z1
  refine ⟨y * z, ?_, by rw [Int.natAbs_mul]; exact Nat.mul_le_mul y2 z2⟩
  rw [e, Rat.intCast_mul, ← y1, ← z1]
  rfl
 obtain ⟨i1, _⟩ := lJ hs.g.nat ht.g.nat
 have hi : inT RM (yV s t) := fun x hx => by
  obtain ⟨u, hu, hx⟩ := List.mem_flatMap.1 hx
  obtain ⟨v, hv, rfl⟩ := List.mem_map.1 hx
  obtain ⟨u1, u2, u3⟩ := hR u hu
  obtain ⟨v1, v2, v3⟩ := hT v hv
  obtain ⟨a1, a2⟩ := uT (hs.g.nat u hu) (ht.g.nat v hv)
  refine ⟨(Xj a1).1, ?_⟩
  rw [a2]
  rcases hs.root u hu with e | e <;> rcases ht.root v hv with g | g
  ·rw [e, g]; decide +kernel
  ·rw [e, Nat.one_mul, v3]; exact Nat.le_trans v1 (by decide)
  ·rw [g, Nat.mul_one, u3]; exact Nat.le_trans u1 (by decide)
  ·rw [e, g, ← e, sB u2 (Nat.lt_of_le_of_lt (Nat.mul_le_mul u1 u1) (by decide))]; exact (show 1 ≤ RM by decide)
 have ll : (yV s t).length ≤ 4 := by rw [S6]; exact Nat.mul_le_mul hs.len ht.len
 obtain ⟨h1, h2, h3⟩ := YH (by decide) hi
 have n0 : ∀ x ∈ yV s t, nat0 (65535 * 65535) x := fun x hx => (i1 x hx).nat0
 have hp := (qh n0 hm).mono (Nat.mul_le_mul_right _ ll)
 refine ⟨Qc (R := 65535 * 65535) (L := 1) (by omega) (by omega) (by decide) n0 hi (fun x hx => pE (by decide) (hm x hx) (by decide) (by decide)) (by decide) hp (by decide) (by decide), h1, ?_⟩
 exact mf (by decide) h1 fun f hf => by rw [h3 f hf, mF hs.g.nat ht.g.nat, HX hs ht hf]
end Go.Te

namespace Go.Te
open Go Go.Sx Go.Proofs Go.Ar
set_option maxRecDepth 100000
set_option maxHeartbeats 4000000
def O8 : List AV → Option (List zk × AV)
 | [.v (.int .i64 n)] => some ([.p (ZA .i64 n)], .str (Lib.itoa n))
 | _ => none
theorem Jb (G : List (Nat × Obj)) (n : Int) (h : ZA .i64 n) :
 Zv [aI n] → (iN ≤ n ∧ n ≤ iX) ∧ Lib.itoa n = Lib.itoa n := by
 delta iX iN aI
 intro hb
 simp only [sS, Yw, yQ, zm, yY, ye, xb, YJ, Xk, xz, Xf, xr, mg, Pv, pJ, rI, dS]
 simpa only [ZA] using h
theorem I8 {G : List (Nat × Obj)} (hG : zN G) (n : Int) (h : ZA .i64 n) : zU Tryz.prog G 24 [.i n] (.str (Lib.itoa n)) :=
 zW (T := oQ G) (an := .auto) mixed (yO hG) (Eq.mp (by kernel_rfl) (Jb G n h))
theorem I0 {G : List (Nat × Obj)} (hG : zN G) : zO Tryz.prog G 24 O8 := by
 intro xs ps r h hp
 unfold O8 at h
 split at h
 ·skip
  rename_i n
  cases h
  obtain ⟨q0, -⟩ := ZH hp
  exact weaken (ys := [.i n]) ⟨zT _, trivial⟩ (I8 hG n q0)
 ·cases h
theorem HY (p0 p1 q0 q1 : Rat) : Ze (AV.xl true 2 2 (Sx.rowAt [zw [AV.str (zt p0), AV.str (zt q0)], zw [AV.str (zt p1), AV.str (zt q1)]])) = ([⟨p0, q0⟩, ⟨p1, q1⟩] : List Tm) := by
 show ([⟨zD (zt p0), zD (zt q0)⟩, ⟨zD (zt p1), zD (zt q1)⟩] : List Tm) = _
 simp only [zm]
theorem JP (p0 p1 q0 q1 : Rat) : zC Tm (AV.xl true 2 2 (Sx.rowAt [zw [AV.str (zt p0), AV.str (zt q0)], zw [AV.str (zt p1), AV.str (zt q1)]])) = true := by
 unfold zC
 rw [Bool.and_eq_true]
 refine ⟨rfl, uQ fun i hi => ?_⟩
 match i, hi with
 | 0, _ => exact yc.ok (⟨p0, q0⟩ : Tm)
 | 1, _ => exact yc.ok (⟨p1, q1⟩ : Tm)
theorem KA {a b : Int} {n : Nat} {s : List Tm} (h : ii a b n s) : Xn s :=
 ⟨MA h.g (by decide), Nat.le_trans h.len (by decide), fun x hx => pE (by decide) (h.mul x hx) (by decide) (by decide)⟩
noncomputable def IQ (G : List (Nat × Obj)) : Tb := ((((((oQ G).plus 24 O8).plus 22 Q3).plus 20 tD).plus 16 pO).plus 15 Q7).body Tryz.prog [(25, .auto)]
theorem qa {G : List (Nat × Obj)} (hG : WE G) : zz Tryz.prog (IQ G) := zz.body mixed (zz.plus (zz.plus (zz.plus (zz.plus (zz.plus (yO hG.tab) (I0 hG.tab)) (KC hG.tab)) (pI hG.tab)) (Km hG.tab)) (Kh hG)) _
theorem v6 (G : List (Nat × Obj)) (a b n : Int) (ha : -32768 ≤ a ∧ a ≤ 32767) (hb : -32768 ≤ b ∧ b ≤ 32767) (hn : 0 ≤ n ∧ n ≤ 65535) :
 let q1 := (iN ≤ a ∧ a ≤ iX); let q2 := (iN ≤ n ∧ n ≤ iX); let q3 := (AV.xl true 2 2 (Sx.rowAt [zw [AV.str (Lib.itoa a), AV.str (bA #[(49 : UInt8)])], zw [AV.str (Lib.itoa b), AV.str (Lib.itoa n)]])); let q4 := (Ze q3); let q5 := (AV.xl true 2 2 (Sx.rowAt [zw [AV.str (Lib.itoa a), AV.str (bA #[(49 : UInt8)])], zw [AV.str (Lib.itoa (-b)), AV.str (Lib.itoa n)]])); let q6 := (Ze q5); let q8 := (Zb
 q4); let q7 := (AV.xl false 2 (lN q8) fun i j => zS.enc (gD q8 i zS.dflt) j); let q10 := (Zb q6); let q9 := (AV.xl false 2 (lN q10) fun i j => zS.enc (gD q10 i zS.dflt) j); let q11 := (Ze q7); let q12 := (Ze q9); let q13 := (yV q11 q12); let q15 := (Zb q13); let q14 := (AV.xl false 2 (lN q15) fun i j => zS.enc (gD q15 i zS.dflt) j); let q16 := (Ze q14); let q19 := (if iZ > if iZ > if iZ > iZ then iZ else iZ then iZ else if iZ > iZ then iZ else iZ then (0 :
 Int) else if iZ > if iZ > iZ then iZ else iZ then iZ else if iZ > iZ then iZ else iZ); let q21 := (gD q16 0 zS.dflt); let q20 := (lN q16 = 0 ∨ lN q16 = 1 ∧ Tm.q q21 = (1 : Rat)); let q18 := (bif q19 == iZ then decide q20 else false); let q17 := (!zr true q18 || zr true q18); let q22 := (!zr true q18 || dK a); let q23 := (!zr true q18 || dK b); let q24 := (if lN q16 = 0 then [(48 : UInt8)] else if lN q16 = 1 ∧ Tm.q q21 = (1 : Rat) then zt
 (Tm.c q21) else []); Zv [AV.v (Value.int IntKind.i16 a), AV.v (Value.int IntKind.i16 b), AV.v (Value.int IntKind.u16 n)] → bF (dK b) (bF (dK a) (q1 ∧ (iN ≤ b ∧ b ≤ iX) ∧ bF (dK n) (q2 ∧ bF (zC Tm q3) (wk q4 ∧ bF (dK b) (bF (dK (-b)) (bF (dK a) (q1 ∧ (iN ≤ -b ∧ -b ≤ iX) ∧ bF (dK n) (q2 ∧ bF (zC Tm q5) (wk q6 ∧ bF (zC Tm q7) (bF (zC Tm q9) (Xn
 q11 ∧ Xn q12 ∧ wk q13 ∧ bF (zC Tm q14) (Xn q16 ∧ bF q17 (bF q22 (bF q17 (bF q22 (bF q17 (bF q17 (bF (!zr true q18 || dK (a * a)) (bF q17 (bF q23 (bF q17 (bF q23 (bF q17 (bF q17 (bF (!zr true q18 || dK (b * b)) (bF q17 (bF (!zr true q18 || dK n) (bF q17 (bF q17 (bF (!zr true q18 || dK (b * b * n)) (bF q17 (bF q17 (bF (!zr true q18 || dK (a * a - b * b * n)) (bF q17 (bF q17 ((zr true q18 = true →
 iN ≤ a * a - b * b * n ∧ a * a - b * b * n ≤ iX) ∧ zZ q17 (bF q17 (bF ((!bif q19 == iZ then decide q20 else false) || zr true q18) (bF ((!bif bif q19 == iZ then decide q20 else false then q24 == Lib.itoa (a * a - b * b * n) else false) || zr true (bif bif q19 == iZ then decide q20 else false then q24 == Lib.itoa (a * a - b * b * n) else false)) ((bif bif bif q19 == iZ then decide q20 else false then q24 == Lib.itoa (a * a - b * b * n) else false then true else false) = true))))
 False)))))))))))))))))))))))))))))))))))) := by
 delta bF dK bA lN gD iZ iX iN
 dsimp only
 intro hbb
 simp only [sS, Yw, yQ, zm, yY, ye, xb, YJ, Xk, xz, Xf, xr, mg, Pv, pJ, rI, dS]
 obtain ⟨k, rfl⟩ := Int.eq_ofNat_of_zero_le hn.1
 have hk : k ≤ 65535 := by omega
 have a0 : a.natAbs ≤ 32768 := by omega
 have b0 : b.natAbs ≤ 32768 := by omega
 have b1 : (-b).natAbs ≤ 32768 := by omega
 have s1 := It a0 b0 hk
 have s2 := It a0 b1 hk
 obtain ⟨m3, g3, e3⟩ := ki s1 s2
 simp only [← RI, ← KI, HY, JP, Rat.intCast_natCast]
 have m1 := KL a0 b0 hk
 have m2 := KL a0 b1 hk
 have o1 := KA s1
 have o2 := KA s2
 have o3 := Vt m3
 unfold Qw at *
 generalize Zb [(⟨(a : Rat), 1⟩ : Tm), ⟨(b : Rat), (k : Rat)⟩] = s at *
 generalize Zb [(⟨(a : Rat), 1⟩ : Tm), ⟨((-b : Int) : Rat), (k : Rat)⟩] = t at *
 generalize Zb (yV s t) = p at *
 have ka : a * a ≤ 32768 * 32768 ∧ 0 ≤ a * a := by
  have h : a * a = ((a.natAbs * a.natAbs : Nat) : Int) := by rw [Int.natCast_mul, Int.natAbs_mul_self']
  have := Nat.mul_le_mul a0 a0
  omega
 have kb : b * b ≤ 32768 * 32768 ∧ 0 ≤ b * b := by
  have h : b * b = ((b.natAbs * b.natAbs : Nat) : Int) := by rw [Int.natCast_mul, Int.natAbs_mul_self']
  have := Nat.mul_le_mul b0 b0
  omega
 have kn : b * b * (k : Int) ≤ 32768 * 32768 * 65535 ∧ 0 ≤ b * b * (k : Int) := ⟨Int.mul_le_mul kb.1 (by omega) (by omega) (by omega), Int.mul_nonneg kb.2 (by omega)⟩
 refine ⟨(by simp only [ZA]; omega), (by simp only [ZA]; omega), by omega, by omega, (by simp only [ZA]; omega), by omega, zY.2 ⟨fun _ => ⟨m1, (by simp only [ZA]; omega), (by simp only [ZA]; omega), (by simp only [ZA]; omega), by omega, by omega, (by simp only [ZA]; omega), by omega, zY.2 ⟨fun _ => ⟨m2, o1, o2, m3, o3, (fun _ => by simp only [ZA]; omega), (fun _ => by simp only [ZA]; omega), (fun _ => by simp only [ZA]; omega), (fun _ => by simp only [ZA]; omega), (fun _ => by simp only [ZA]; omega), (fun _ => by simp only [ZA]; omega), (fun _ => by simp only [ZA]; omega), (fun _ => by simp only [ZA]; omega), (fun _ => by simp only [ZA]; omega), fun _ => by omega, ?_⟩, fun c => by cases c⟩⟩, fun c => by cases c⟩⟩
 by_cases hv : ((a * a - b * b * (k : Int) : Int) : Rat) = 0
 ·rw [if_pos hv] at e3
  rw [e3, hv]
  decide +kernel
 ·rw [if_neg hv] at e3
  rw [e3]
  generalize ((a * a - b * b * (k : Int) : Int) : Rat) = v at *
  have d : decide (([(⟨v, 1⟩ : Tm)]).length = 0 ∨ ([(⟨v, 1⟩ : Tm)]).length = 1 ∧ (([(⟨v, 1⟩ : Tm)]).getD 0 zS.dflt).q = 1) = true := decide_eq_true (.inr ⟨rfl, rfl⟩)
  have i0 : (if ([(⟨v, 1⟩ : Tm)]).length = 0 then [48] else if ([(⟨v, 1⟩ : Tm)]).length = 1 ∧ (([(⟨v, 1⟩ : Tm)]).getD 0 zS.dflt).q = 1 then zt (([(⟨v, 1⟩ : Tm)]).getD 0 zS.dflt).c else []) = zt v := by
   rw [if_neg (by simp), if_pos ⟨rfl, rfl⟩]
   rfl
  rw [d, i0, beq_self_eq_true]
  rfl
theorem VN {G : List (Nat × Obj)} (hG : WE G) (a b n : Int) (ha : -32768 ≤ a ∧ a ≤ 32767) (hb : -32768 ≤ b ∧ b ≤ 32767) (hn : 0 ≤ n ∧ n ≤ 65535) : zU Tryz.prog G 8 [.v (.int .i16 a), .v (.int .i16 b), .v (.int .u16 n)] (.b true) :=
 zW (T := IQ G) (an := .auto) mixed (qa hG) (Eq.mp (by kernel_rfl) (v6 G a b n ha hb hn))
end Go.Te

namespace Go.Te
open Go Go.Sx Go.Proofs Go.Ar Go.RowKit
set_option maxRecDepth 100000
def sZ : List (List UInt8) := [[50], [51], [53], [55], [49, 49], [49, 51], [49, 55], [49, 57], [50, 51], [50, 57], [51, 49], [51, 55], [52, 49], [52, 51], [52, 55], [53, 51], [53, 57], [54, 49], [54, 55], [55, 49], [55, 51], [55, 57], [56, 51], [56, 57], [57, 55]]
theorem tu : (sZ.map fun z => Value.string ⟨z.toArray⟩) = zM.toList := by kernel_rfl
theorem Wa {H : Type} {enc : TypeId × Value → H} {P : Program} {w : World} {base : Nat} {sp : Nat → Bool} {held : Bool} {fuel : Nat} {t e : TypeId} {n : Nat} {cs : List Value} {zs : List (List UInt8)} {p : List MemPlace}
  (ht : P.underlying t = some (.array n e)) (he : P.underlying e = some .string) (hce : P.cellsOf e = 1) (hct : P.cellsOf t = n)
  (h : DataW.trod enc P w base sp held fuel t cs = some (.agg (zs.map fun z => .lit (.string z)), p)) : cs = zs.map fun z => Value.string ⟨z.toArray⟩ := by
 cases fuel with
 | zero => simp [DataW.trod] at h
 | succ fuel =>
  simp only [DataW.trod, ht, hce, hct, Nat.mul_one] at h
  split at h
  ·rename_i hl
   obtain ⟨xs, hm, hx⟩ := Option.map_eq_some_iff.1 h
   have hxs : xs.map (·.1) = zs.map fun z => (DataW.lit (.string z) : DataW H) := by
    have := congrArg Prod.fst hx
    simpa using this
   have hxl : xs.length = n := by simpa using Lib.mapM_length hm
   have hzl : zs.length = n := by
    have := congrArg List.length hxs
    simp at this
    omega
   apply List.ext_getElem?
   intro i
   by_cases hi : i < n
   ·obtain ⟨b, hb, hf⟩ := Lib.mapM_at hm i i (by simp [hi])
    obtain ⟨z, hc, rfl, _⟩ := DataW.trod_string he hf
    have h1 : cs[i]? = some (.string z) := by
     have := congrArg (·[0]?) hc
     simpa [List.getElem?_take, List.getElem?_drop] using this
    have h2 : (xs.map (·.1))[i]? = some (DataW.lit (.string z.data.toList) : DataW H) := by simp [hb]
    rw [hxs] at h2
    simp only [List.getElem?_map, Option.map_eq_some_iff, DataW.lit.injEq, Lit.string.injEq] at h2
    obtain ⟨z', hz', rfl⟩ := h2
    simp [h1, hz']
   ·rw [List.getElem?_eq_none (by omega), List.getElem?_eq_none (by simp; omega)]
  ·cases h
section
variable {H : Type} {enc : TypeId × Value → H} {W : World} {spare : Nat → Bool} {held : Bool}
abbrev Gz (W : World) : Nat → Prop := fun b => b < W.heap.size
theorem po {n : Int} {d : DataW H} {ps : List MemPlace} (h : DataW.Trod enc Tryz.prog W 0 spare held 5 (.int .u8 n) d ps) : 0 ≤ n ∧ n ≤ 255 := by
 obtain ⟨m, h⟩ := h
 obtain ⟨k, h1, _, h3⟩ := DataW.trod_int Tryz.underlying5 h
 have e : [Value.int .u8 n] = [.int .u8 k] := h1
 cases e
 simp only [Lit.wf, Bool.and_eq_true, decide_eq_true_eq] at h3
 have h4 : (0 : Int) ≤ n ∧ n ≤ 255 := h3
 exact h4
theorem U3 {n : Int} {d : DataW H} {ps : List MemPlace} (h : DataW.Trod enc Tryz.prog W 0 spare held 38 (.int .u16 n) d ps) : 0 ≤ n ∧ n ≤ 65535 := by
 obtain ⟨m, h⟩ := h
 obtain ⟨k, h1, _, h3⟩ := DataW.trod_int Tryz.underlying38 h
 have e : [Value.int .u16 n] = [.int .u16 k] := h1
 cases e
 simp only [Lit.wf, Bool.and_eq_true, decide_eq_true_eq] at h3
 have h4 : (0 : Int) ≤ n ∧ n ≤ 65535 := h3
 exact h4
theorem Ri {n : Int} {d : DataW H} {ps : List MemPlace} (h : DataW.Trod enc Tryz.prog W 0 spare held 51 (.int .i16 n) d ps) : -32768 ≤ n ∧ n ≤ 32767 := by
 obtain ⟨m, h⟩ := h
 obtain ⟨k, h1, _, h3⟩ := DataW.trod_int Tryz.underlying51 h
 have e : [Value.int .i16 n] = [.int .i16 k] := h1
 cases e
 simp only [Lit.wf, Bool.and_eq_true, decide_eq_true_eq] at h3
 have h4 : (-32768 : Int) ≤ n ∧ n ≤ 32767 := h3
 exact h4
end
end Go.Te

namespace Go.Proofs.YthbpnknhfokadaaGreatDoor.surdConjugates
open Go Go.ChangeShapes Go.WideShapes Go.ChangeAt Go.RowKit
theorem own : ownKnob Tryz.prog.godebug = none := by kernel_rfl
theorem QI : Tryz.prog.globalNamed "internal/strconv.uint64pow10" = some 1 := by kernel_rfl
theorem laidOut : laidOutB Tryz.prog = true := by kernel_rfl
theorem nl : Tryz.prog.readableRec 51 = true := by kernel_rfl
theorem Oj : (51 : TypeId) < Tryz.prog.types.size := of_decide_eq_true (by kernel_rfl)
theorem Me : Tryz.prog.readableRec 38 = true := by kernel_rfl
theorem lO : (38 : TypeId) < Tryz.prog.types.size := of_decide_eq_true (by kernel_rfl)
theorem Xi {W W' : World} (h : Below W.heap.size W W') (may : MemPlace → Prop) : W.keptBut W' may := by
 refine ⟨h.os, h.output, fun i hi => ?_⟩
 rw [h.block i hi]
 cases hh : W.heap[i]? with
 | none => rfl
 | some o => cases o <;> simp
theorem XH {W W' : World} (h : Below W.heap.size W W') {p : MemPlace} (hp : p.block < W.heap.size) : W.sameAt W' p := by
 cases p with
 | cell b off =>
  show W'.cell? _ = W.cell? _
  exact World.cell?_of_block (h.block b hp)
 | map b => exact h.block b hp
theorem VJ {H : Type} {enc : TypeId × Value → H} {P : Program} {f : Func} {s : ChangeSpec} {apart fresh handsOn again : Bool} {W W' : World} {args : Array Value} {v : Value} {ds gs : List (DataW H)} {before pa pv : List MemPlace}
  (hW : DataW.Whole enc P f.params.toList s.vars apart W args.toList ds gs before)
  (hres : ∀ (b : Nat) (sp : Nat → Bool) (hd : Bool), DataW.TrodAll enc P W' b sp hd f.resultTypes.toList (v.resultList f.resultTypes.size) (s.fn H (ds ++ gs)).results [])
  (hargs : ∀ sp : Nat → Bool, (∀ p ∈ before, sp p.block = true) → DataW.TrodAll enc P W' 0 sp true f.params.toList args.toList (s.fn H (ds ++ gs)).args pa)
  (hvars : ∀ sp : Nat → Bool, (∀ p ∈ before, sp p.block = true) → DataW.TrodVars enc P W' sp s.vars (s.fn H (ds ++ gs)).vars pv)
  (hps : before = pa ++ pv) (hb : Below W.heap.size W W')
  (hok : ∀ (j : Nat) (t : TypeId) (r : Value), f.resultTypes[j]? = some t → (v.resultList f.resultTypes.size)[j]? = some r → Value.okWide P W' .any 0 t r) :
  s.post enc P f apart fresh handsOn again W args v W' := by
 have hlt : ∀ p ∈ before, p.block < W.heap.size := fun p hp => hW.lt p hp
 have hold : ∀ p ∈ before, (fun b => decide (b < W.heap.size)) p.block = true := fun p hp => by simpa using hlt p hp
 refine ⟨ds, gs, before, [], pa, pv, hW, hres _ _ _, hargs _ hold, hvars _ hold, Xi hb _, fun _ => ?_⟩
 obtain ⟨_, _, _, _, _, hz, hn⟩ := hW
 refine ⟨hok, _, _, ([] ++ pa) ++ pv, ⟨[] ++ pa, pv, trodAll_append (hargs _ (fun _ _ => rfl)) (hres _ _ _), hvars _ (fun _ _ => rfl), rfl, ?_, ?_⟩, ?_⟩
 ·intro b off hp
  have hp' : MemPlace.cell b off ∈ before := by rw [hps]; simpa using hp
  have e : W'.frozen? ⟨b, off, none⟩ = W.frozen? ⟨b, off, none⟩ := by
   unfold World.frozen?
   rw [hb.block b (hlt _ hp')]
  rw [e]
  exact hz b off hp'
 ·intro ha
  have := hn ha
  rw [hps] at this
  simpa using this
 ·intro p hp _
  rw [hps]
  simpa using hp
theorem table {W : World} (h : laidMetH Tryz.prog Rows.surdConjugatesRow.laid W) : ∃ cs t fr, W.heap[1]? = some (.cells cs t fr) ∧ cs = (Lib.pow10Tab.map fun z => Value.int .u64 z).toArray := by
 have h' : laidMet Tryz.prog (("math/bits.deBruijn32tab", Rows.laid_math_bits_deBruijn32tab) :: ("math/bits.deBruijn64tab", Rows.laid_math_bits_deBruijn64tab) :: ("internal/strconv.uint64pow10", Rows.laid_internal_strconv_uint64pow10) :: [("unicode/utf8.acceptRanges", Rows.laid_unicode_utf8_acceptRanges), ("strconv.ErrRange", Rows.laid_strconv_ErrRange), ("strconv.ErrSyntax", Rows.laid_strconv_ErrSyntax), ("kingpost/root.primes", Rows.laid_kingpost_root_primes), ("kingpost/surd.signPlaces", Rows.laid_kingpost_surd_signPlaces), ("unicode/utf8.first", Rows.laid_unicode_utf8_first)]) W := h
 obtain ⟨ps, ⟨_, _, _, _, _, _, _, _, _, _, ⟨_, _, _, _, _, _, _, _, _, _, ⟨g, t, cs, fuel, p, q, hg, hty, hvar, hd, _⟩, _⟩, _⟩, _⟩ := h'
 obtain rfl := Option.some.inj (QI.symm.trans hg)
 have hcs : cs.toList = Lib.pow10Tab.map fun z => Value.int .u64 z := by
  obtain rfl : t = 216 := Option.some.inj ((show (Tryz.prog.globals[1]?).map (·.type) = some 216 by kernel_rfl).symm.trans hty) |>.symm
  exact Lib.cells_of_tab (n := 20) (e := 160) (zs := Lib.pow10Tab) (by kernel_rfl) (by kernel_rfl) (by kernel_rfl) (by kernel_rfl) hd
 unfold World.var? at hvar
 rw [QI] at hvar
 simp only [Option.bind_some] at hvar
 split at hvar
 ·rename_i cs' t' fr hh
  cases hvar
  exact ⟨_, _, _, hh, by rw [← hcs]⟩
 ·cases hvar
theorem rC : Tryz.prog.globalNamed "kingpost/root.primes" = some 2 := by kernel_rfl
theorem R3 {W : World} (h : laidMetH Tryz.prog Rows.surdConjugatesRow.laid W) : ∃ t fr, W.heap[2]? = some (.cells Te.zM t fr) := by
 have h' : laidMet Tryz.prog (("math/bits.deBruijn32tab", Rows.laid_math_bits_deBruijn32tab) :: ("math/bits.deBruijn64tab", Rows.laid_math_bits_deBruijn64tab) :: ("internal/strconv.uint64pow10", Rows.laid_internal_strconv_uint64pow10) :: [("unicode/utf8.acceptRanges", Rows.laid_unicode_utf8_acceptRanges), ("strconv.ErrRange", Rows.laid_strconv_ErrRange), ("strconv.ErrSyntax", Rows.laid_strconv_ErrSyntax), ("kingpost/root.primes", Rows.laid_kingpost_root_primes), ("kingpost/surd.signPlaces", Rows.laid_kingpost_surd_signPlaces), ("unicode/utf8.first", Rows.laid_unicode_utf8_first)]) W := h
 obtain ⟨ps, ⟨_, _, _, _, _, _, _, _, _, _, ⟨_, _, _, _, _, _, _, _, _, _, ⟨_, _, _, _, _, _, _, _, _, _, ⟨_, _, _, _, _, _, _, _, _, _, ⟨_, _, _, _, _, _, _, _, _, _, ⟨_, _, _, _, _, _, _, _, _, _, ⟨g, t, cs, fuel, p, q, hg, hty, hvar, hd, _⟩, _⟩, _⟩, _⟩, _⟩, _⟩, _⟩, _⟩ := h'
 obtain rfl := Option.some.inj (rC.symm.trans hg)
 have hcs : cs.toList = Te.zM.toList := by
  obtain rfl : t = 218 := Option.some.inj ((show (Tryz.prog.globals[2]?).map (·.type) = some 218 by kernel_rfl).symm.trans hty) |>.symm
  exact (Te.Wa (n := 25) (e := 9) (zs := Te.sZ) Tryz.underlying218 Tryz.underlying9 (by kernel_rfl) (by kernel_rfl) hd).trans Te.tu
 unfold World.var? at hvar
 rw [rC] at hvar
 simp only [Option.bind_some] at hvar
 split at hvar
 ·rename_i cs' t' fr hh
  cases hvar
  exact ⟨_, _, by rw [← Array.toList_inj.1 hcs]; exact hh⟩
 ·cases hvar
theorem Ry : Tryz.prog.globalNamed "kingpost/surd.signPlaces" = some 0 := by kernel_rfl
theorem OL {W : World} (h : laidMetH Tryz.prog Rows.surdConjugatesRow.laid W) : ∃ t fr, W.heap[0]? = some (.cells Te.Zp t fr) := by
 have h' : laidMet Tryz.prog (("math/bits.deBruijn32tab", Rows.laid_math_bits_deBruijn32tab) :: ("math/bits.deBruijn64tab", Rows.laid_math_bits_deBruijn64tab) :: ("internal/strconv.uint64pow10", Rows.laid_internal_strconv_uint64pow10) :: [("unicode/utf8.acceptRanges", Rows.laid_unicode_utf8_acceptRanges), ("strconv.ErrRange", Rows.laid_strconv_ErrRange), ("strconv.ErrSyntax", Rows.laid_strconv_ErrSyntax), ("kingpost/root.primes", Rows.laid_kingpost_root_primes), ("kingpost/surd.signPlaces", Rows.laid_kingpost_surd_signPlaces), ("unicode/utf8.first", Rows.laid_unicode_utf8_first)]) W := h
 obtain ⟨ps, ⟨_, _, _, _, _, _, _, _, _, _, ⟨_, _, _, _, _, _, _, _, _, _, ⟨_, _, _, _, _, _, _, _, _, _, ⟨_, _, _, _, _, _, _, _, _, _, ⟨_, _, _, _, _, _, _, _, _, _, ⟨_, _, _, _, _, _, _, _, _, _, ⟨_, _, _, _, _, _, _, _, _, _, ⟨g, t, cs, fuel, p, q, hg, hty, hvar, hd, _⟩, _⟩, _⟩, _⟩, _⟩, _⟩, _⟩, _⟩, _⟩ := h'
 obtain rfl := Option.some.inj (Ry.symm.trans hg)
 have hcs : cs.toList = [4, 16, 64].map fun z => Value.int .i64 z := by
  obtain rfl : t = 115 := Option.some.inj ((show (Tryz.prog.globals[0]?).map (·.type) = some 115 by kernel_rfl).symm.trans hty) |>.symm
  exact Lib.cells_of_tab (n := 3) (e := 3) (zs := [4, 16, 64]) (by kernel_rfl) (by kernel_rfl) (by kernel_rfl) (by kernel_rfl) hd
 have hcs2 : cs = Te.Zp := Array.toList_inj.1 hcs
 unfold World.var? at hvar
 rw [Ry] at hvar
 simp only [Option.bind_some] at hvar
 split at hvar
 ·rename_i cs' t' fr hh
  cases hvar
  exact ⟨_, _, by rw [← hcs2]; exact hh⟩
 ·cases hvar
set_option maxRecDepth 100000 in
set_option maxHeartbeats 1000000 in
theorem tW (H : Type) (enc : TypeId × Value → H) (W : World) (base : Nat) (args : Array Value) (ds gs : List (DataW H)) (before : List MemPlace)
  (hval : ∀ (j : Nat) t v, Tryz.f8.params[j]? = some t → args[j]? = some v → Value.okWide Tryz.prog W .any base t v)
  (hW : DataW.Whole enc Tryz.prog Tryz.f8.params.toList Rows.surdConjugatesSpec.vars false W args.toList ds gs before) (hL : laidMetH Tryz.prog Rows.surdConjugatesRow.laid W) :
  Calls Tryz.prog 8 args W fun e W' => ∃ v, e = .returned v ∧ Rows.surdConjugatesSpec.post enc Tryz.prog Tryz.f8 false true false false W args v W' := by
 have hW' := hW
 have hlt := hW.lt
 obtain ⟨p, q, hA0, hV, rfl, hfz, hnd⟩ := hW
 have hA : DataW.TrodAll enc Tryz.prog W 0 (fun _ => true) true Tryz.f8.params.toList args.toList ds p := hA0
 rw [Tryz.params8] at hA hval
 obtain ⟨v0, vs0, d0, ds0, p0, q0, hargs, rfl, rfl, h0, r0⟩ := trodAll_cons hA
 obtain ⟨v1, vs1, d1, ds1, p1, q1, rfl, rfl, rfl, h1, r1⟩ := trodAll_cons r0
 obtain ⟨v2, vs2, d2, ds2, p2, q2, rfl, rfl, rfl, h2, r2⟩ := trodAll_cons r1
 obtain ⟨rfl, rfl, rfl⟩ := trodAll_nil r2
 obtain rfl : args = #[v0, v1, v2] := by cases args; simp_all
 obtain ⟨rfl, rfl⟩ := trodVars_none hV
 clear hA0
 simp only [List.append_nil] at hW' hlt
 obtain ⟨k0, rfl⟩ := okWide_int Tryz.underlying51 (hval 0 51 v0 rfl rfl)
 obtain ⟨k1, rfl⟩ := okWide_int Tryz.underlying51 (hval 1 51 v1 rfl rfl)
 obtain ⟨k2, rfl⟩ := okWide_int Tryz.underlying38 (hval 2 38 v2 rfl rfl)
 have hu0 := Te.Ri h0
 have hu1 := Te.Ri h1
 have hu2 := Te.U3 h2
 obtain ⟨cs, t, fr, hh, hcs⟩ := table hL
 obtain ⟨t1, fr1, hh1⟩ := R3 hL
 obtain ⟨t2, fr2, hh2⟩ := OL hL
 have hG : Te.WE [(2, Obj.cells Te.zM t1 fr1), (0, Obj.cells Te.Zp t2 fr2), (1, Obj.cells cs t fr)] := ⟨⟨⟨1, t, fr, QI, by rw [hcs]; exact List.mem_cons_of_mem _ (List.mem_cons_of_mem _ List.mem_cons_self)⟩, t1, fr1, _, rfl⟩, t1, fr1, t2, fr2, _, rfl⟩
 have lt : ∀ {k : Nat} {o : Obj}, W.heap[k]? = some o → k < W.heap.size := fun {k o} h => by
  rcases Nat.lt_or_ge k W.heap.size with h' | h'
  ·exact h'
  ·rw [Array.getElem?_eq_none h'] at h; cases h
 have walk := (Te.VN hG k0 k1 k2 hu0 hu1 hu2).2 W (Te.Gz W) [.int .i16 k0, .int .i16 k1, .int .u16 k2] (fun b h => h) (fun b o hb => by
  rcases List.mem_cons.1 hb with hb | hb
  ·cases hb; exact ⟨lt hh1, hh1⟩
  rcases List.mem_cons.1 hb with hb | hb
  ·cases hb; exact ⟨lt hh2, hh2⟩
  rw [List.mem_singleton] at hb
  cases hb; exact ⟨lt hh, hh⟩) ⟨.v _, .v _, .v _, trivial⟩
 refine walk.mono fun e W' ⟨hb, rv, he, hr⟩ => ?_
 obtain rfl := Sx.ZS hr
 subst he
 have again : ∀ {t : TypeId} (hrec : Tryz.prog.readableRec t = true) (hrow : t < Tryz.prog.types.size) {v : Value} {d : DataW H} {ps : List MemPlace}, DataW.Trod enc Tryz.prog W 0 (fun _ => true) true t v d ps → (∀ p ∈ ps, p.block < W.heap.size) → ∀ sp : Nat → Bool, (∀ p ∈ ps, sp p.block = true) →
   DataW.Trod enc Tryz.prog W' 0 sp true t v d ps := fun hrec hrow _ _ _ h hp sp hs => Go.WideElems.Trod_stays laidOut hrec hrow h (fun p hp' => XH hb.toBelow (hp p hp')) hs
 refine ⟨_, rfl, VJ (pa := p0 ++ (p1 ++ (p2 ++ ([])))) (pv := []) hW' (fun _ _ _ => trodAll_cons_mk (shut_bool Tryz.underlying4 _) trodAll_mk0) (fun sp hsp => ?_) (fun _ _ => rfl) (by simp) hb.toBelow (ok_one (by kernel_rfl) rfl (okWide_bool_mk Tryz.underlying4 _))⟩
 rw [Tryz.params8]
 exact trodAll_cons_mk (again nl Oj h0 (fun p hp => hlt p (by simp [hp])) sp fun p hp => hsp p (by simp [hp]))
  (trodAll_cons_mk (again nl Oj h1 (fun p hp => hlt p (by simp [hp])) sp fun p hp => hsp p (by simp [hp]))
  (trodAll_cons_mk (again Me lO h2 (fun p hp => hlt p (by simp [hp])) sp fun p hp => hsp p (by simp [hp])) trodAll_mk0))
def Od : List Int := [0, 1, 28, 2, 29, 14, 24, 3, 30, 22, 20, 15, 25, 17, 4, 8, 31, 27, 13, 23, 21, 19, 16, 7, 26, 12, 18, 6, 11, 5, 10, 9]
def MZ : List Int := [0, 1, 56, 2, 57, 49, 28, 3, 61, 58, 42, 50, 38, 29, 17, 4, 62, 47, 59, 36, 45, 43, 51, 22, 53, 39, 33, 30, 24, 18, 12, 5, 63, 55, 48, 27, 60, 41, 37, 16, 46, 35, 44, 21, 52, 32, 23, 11, 54, 26, 40, 15, 34, 20, 31, 10, 25, 14, 19, 9, 13, 8, 7, 6]
def first : List Int := Go.Pinned.utf8FirstZ.map fun (n : Nat) => (n : Int)
def Qe : List Int := [128, 191, 160, 191, 128, 159, 144, 191, 128, 143] ++ List.replicate 22 0
def put (cs : Array Value) : Obj → Obj
 | .cells _ t frozen => .cells cs t frozen
 | o => o
def bytesOf (l : List Int) : Array Value := (l.map fun z => Value.int .u8 z).toArray
noncomputable def U7 (h : Array Obj) : Array Obj :=
 ((((((((((h.modify 2 (put Te.zM)).modify 0 (put Te.Zp)).modify 1 (put (Lib.pow10Tab.map fun z => Value.int .u64 z).toArray)).modify 4 (put (bytesOf Od))).modify 5 (put (bytesOf MZ))).modify 9 (put (bytesOf Qe))).modify 8 (put (bytesOf first))).modify
  7 (put #[.iface 275 (.pointer (some ⟨h.size, 0, none⟩))])).modify 6 (put #[.iface 275 (.pointer (some ⟨h.size + 1, 0, none⟩))])).push
  (.cells #[.string ⟨#[118, 97, 108, 117, 101, 32, 111, 117, 116, 32, 111, 102, 32, 114, 97, 110, 103, 101]⟩] 277 (0, 0))).push (.cells #[.string ⟨#[105, 110, 118, 97, 108, 105, 100, 32, 115, 121, 110, 116, 97, 120]⟩] 277 (0, 0))
noncomputable def xT (os : Os) : World := { World.holding Tryz.prog os ⟨#[], #[], []⟩ with heap := U7 (World.holding Tryz.prog os ⟨#[], #[], []⟩).heap }
abbrev wA : Array Value := #[.int .i16 0, .int .i16 0, .int .u16 0]
theorem tz (os : Os) : laidMet Tryz.prog Rows.surdConjugatesRow.laid ((xT os).forCall (fun _ _ => 0) ⟨#[], wA, []⟩).memory :=
 laidMet_of_run' 8 (by kernel_rfl) (by kernel_rfl)
theorem reads (os : Os) {H : Type} (enc : TypeId × Value → H) : ∃ places, DataW.whole enc Tryz.prog ((xT os).forCall (fun _ _ => 0) ⟨#[], wA, []⟩).memory Tryz.f8.params.toList Rows.surdConjugatesSpec.vars false wA.toList 8 = some ([.lit (.int .i16 0), .lit (.int .i16 0), .lit (.int .u16 0)], [], places) :=
 ⟨[], by kernel_rfl⟩
set_option maxRecDepth 100000 in
theorem lifted (os : Os) (started : os.Started) (H : Type) (enc : TypeId × Value → H) (F : Stop.Interp) :
  ReturnsInHanded {} Tryz.checked os 8 .any ((OpenSpec.ofChange Rows.surdConjugatesSpec).preRow enc Tryz.prog Tryz.f8 Rows.surdConjugatesRow.domain false Rows.surdConjugatesRow.laid) (((OpenSpec.ofChange Rows.surdConjugatesSpec).at F).post enc Tryz.prog Tryz.f8 false true false false) := by
 obtain ⟨places, hx⟩ := reads os enc
 refine returnsInHanded_of_row (C := Tryz.checked) (s := OpenSpec.ofChange Rows.surdConjugatesSpec) own started (by kernel_rfl) Tryz.func8
  (witness_row_at (enc := enc) (C := Tryz.checked) false (xT os) wA rfl (by kernel_rfl) (by kernel_rfl) (by kernel_rfl)
   (OpenSpec.preRow_of_cond 8 hx (by kernel_rfl) (fun k hk => by cases hk) (by kernel_rfl) (tz os))) ?_
 intro W base args ds gs before hval hW _ _ _ hL _ _
 exact tW H enc W base args ds gs before hval hW hL
end Go.Proofs.YthbpnknhfokadaaGreatDoor.surdConjugates

namespace Go.Proofs.YthbpnknhfokadaaGreatDoor.surdConjugates
open Go Go.ChangeShapes Go.WideShapes Go.ChangeAt Go.RowKit
theorem HF : (Rows.surdConjugatesRow.inPlace == Tryz.pinned.checked.prog.inPlace 8) = true := by kernel_rfl
theorem Hf : (Rows.surdConjugatesRow.unfollowed == Tryz.pinned.checked.prog.unfollowed 8) = true := by kernel_rfl
theorem H0 : (Rows.surdConjugatesRow.recurses == Tryz.pinned.checked.prog.recurses 8) = true := by kernel_rfl
theorem Hn : (Rows.surdConjugatesRow.named == Tryz.pinned.checked.prog.varsNamed 8) = true := by kernel_rfl
theorem closed : joinedFacts Tryz.pinned.checked.prog 8 Tryz.f8 (OpenSpec.ofChange Rows.surdConjugatesSpec).bare Rows.surdConjugatesRow = true := by
 unfold joinedFacts
 rw [HF, Hf, H0, Hn]
 kernel_rfl
theorem wrap : Tryz.f8.isWrapper Tryz.pinned.checked.prog Rows.surdConjugatesRow.wrapper Rows.surdConjugatesRow.mainSum := by
 unfold Func.isWrapper; first | (rw [if_pos (by decide +kernel)]; kernel_rfl) | (rw [if_neg (by decide +kernel)]; exact ⟨rfl, rfl⟩)
theorem LQ : Tryz.f8.isInstance Tryz.pinned.checked.prog Rows.surdConjugatesRow.origin Rows.surdConjugatesRow.targs := of_decide_eq_true (by kernel_rfl)
theorem named : Tryz.pinned.checked.prog.funcNamed Rows.surdConjugatesRow.func = some 8 := by kernel_rfl
theorem said : Rows.SurdConjugatesSaid :=
 OpenClaim.holds_of_cond 8 Tryz.f8 rfl rfl rfl rfl rfl rfl rfl ⟨rfl, rfl, rfl, rfl, rfl⟩ rfl rfl rfl rfl rfl named Tryz.func8 closed
  LQ wrap
  (fun os started H enc _ F => by rw [OpenClaim.pre_eq_preRow]; exact lifted os started H enc F)
end Go.Proofs.YthbpnknhfokadaaGreatDoor.surdConjugates
