/- Surds that are given: their conditions are tested. -/
import Derived.Test.YtgpbohfbhfbelaaGreatDoorTkWa
set_option linter.unusedSimpArgs false
set_option linter.unusedVariables false
namespace Go.Te
open Go Go.Sx Go.Proofs Go.Ar
set_option maxRecDepth 100000
set_option maxHeartbeats 4000000
theorem io {t : Tm} (h : yw RM t) : Lb (zu t.q) := by
 obtain ⟨b1, p1, d1, n1⟩ := WI h (by decide)
 refine ⟨(Zm (by decide) (by decide)).2 (b1.mono (by decide)), by rw [zn]; exact p1, ?_⟩
 rw [zn]
 have a1 : Xu t.q.num ≤ 8 := x5 (by decide) b1.num
 have a2 : Lib.nDigits t.q.den ≤ 8 := (ZX (by decide)).2 b1.den
 omega
theorem Gp {c : Rat} {L D k : Nat} (hL : 0 < L) (h : ∃ z : Int, c * (L : Rat) = (z : Rat) ∧ z.natAbs ≤ D) (h1 : D < 10 ^ k) (h2 : L < 10 ^ k) : bq k c := by
 obtain ⟨z, hz, hd⟩ := h
 have hd0 : (L : Rat) ≠ 0 := fun e => by have := Rat.natCast_eq_zero_iff.1 e; omega
 have e : c = mkRat z L := by rw [Rat.mkRat_eq_div, ← hz]; grind
 rw [e]
 exact sr hL (by omega) h2
theorem IE {l : List Tm} {L B : Nat} (hl : l.length ≤ 16) (hn : ∀ t ∈ l, yw RM t) (hc : ∀ t ∈ l, bq 60 t.c) (hL : 0 < L) (hp : pg L B l) (h1 : B * RM < 10 ^ 60) (h2 : L * RM < 10 ^ 60) : uM l := by
 have hi : inT RM l := fun t ht => oK (hn t ht)
 have hR : RM < 18446744073709551616 := by decide
 exact ⟨by omega, hc, fun t ht _ => io (hn t ht), hi, H8 hR hi hL hp h1 h2, Nat.le_trans (Tv hR hi).2.1 hl⟩
def Fi (L D : Nat) (l : List Tm) : Prop := ∀ t ∈ l, ∃ z : Int, t.c * (L : Rat) = (z : Rat) ∧ z.natAbs ≤ D
theorem kh {l : List Tm} {R L D : Nat} (hl : l.length ≤ 16) (hR : R ≤ RM) (hn : ∀ t ∈ l, yw R t) (hL : 0 < L) (hc : Fi L D l) (h1 : 16 * (D * R) * RM < 10 ^ 60) (h2 : L * RM < 10 ^ 60) (hD : D < 10 ^ 60) : uM l := by
 have hn' : ∀ t ∈ l, yw RM t := fun t ht => by obtain ⟨r, e, h0, h1⟩ := hn t ht; exact ⟨r, e, h0, Nat.le_trans h1 hR⟩
 have hl1 : L ≤ L * RM := Nat.le_mul_of_pos_right _ (by decide)
 exact IE hl hn' (fun t ht => Gp hL (hc t ht) hD (by omega)) hL ((Jn hn hc).mono (Nat.mul_le_mul_right _ hl)) h1 h2
theorem iT {l : List Tm} (h : uM l) : wL (YA l) := by
 refine ⟨(Tv (by decide) h.root).1, h.out, fun x hx => ?_⟩
 have h1 := (Xh (xF l)).mem_iff.1 hx
 have h2 := h.cls l.length
 rw [List.take_length] at h2
 exact h2 x (List.mem_filter.1 h1).1
theorem eU {t : Tm} (h : (t.q.den = 1 ∧ 0 < t.q.num) ∧ t.q.num.natAbs ≤ RM) : yw RM t := by
 exact ⟨t.q.num.natAbs, Rat.ext (by rw [Rat.num_natCast]; omega) (by rw [Rat.den_natCast]; exact h.1.1), by omega, h.2⟩
def Rj (k : Nat) (q : Rat) : Bool := Nat.blt q.num.natAbs (10 ^ k) && Nat.blt q.den (10 ^ k)
theorem yn {k : Nat} {q : Rat} (h : Rj k q = true) : bq k q := by
 unfold Rj at h
 rw [Bool.and_eq_true] at h
 exact ⟨Nat.le_of_ble_eq_true h.1, Nat.le_of_ble_eq_true h.2⟩
def qj (l : List Tm) : Bool := l.all fun t => (t.q.den == 1 && decide (0 < t.q.num)) && Nat.ble t.q.num.natAbs 1000 && decide ((t.c * 1000).den = 1) && Nat.ble (t.c * 1000).num.natAbs 1000000000
theorem Rl {l : List Tm} (h : qj l = true) {t : Tm} (ht : t ∈ l) : yw RM t ∧ ∃ z : Int, t.c * ((1000 : Nat) : Rat) = (z : Rat) ∧ z.natAbs ≤ 1000000000 := by
 unfold qj at h
 rw [List.all_eq_true] at h
 have := h t ht
 simp only [Bool.and_eq_true, beq_iff_eq, decide_eq_true_eq] at this
 obtain ⟨⟨⟨h1, h2⟩, h3⟩, h4⟩ := this
 have h2 := Nat.le_of_ble_eq_true h2
 have h4 := Nat.le_of_ble_eq_true h4
 refine ⟨eU ⟨h1, Nat.le_trans h2 (by decide)⟩, (t.c * 1000).num, ?_, h4⟩
 exact Rat.ext rfl h3
theorem W3 {l : List Tm} (hl : Nat.ble l.length 16 = true) (h : qj l = true) : uM l :=
 kh (L := 1000) (D := 1000000000) (Nat.le_of_ble_eq_true hl) (Nat.le_refl _) (fun t ht => (Rl h ht).1) (by decide) (fun t ht => (Rl h ht).2) (by decide) (by decide) (by decide)
def okB (l : List Tm) : Bool := Nat.ble l.length 16 && qj l && decide (YA l = l)
theorem vg {l : List Tm} (h : okB l = true) : wL l := by
 unfold okB at h
 simp only [Bool.and_eq_true, decide_eq_true_eq] at h
 have := iT (W3 h.1.1 h.1.2)
 rwa [h.2] at this
theorem P5 {n : Nat} (h : n < 4 ^ 400) : XH 400 n = Z7 n := by
 obtain ⟨a, b⟩ := vw 400 n h
 exact Sa a b
theorem eQ {n : Nat} (h : n < 10 ^ 215) : n < 4 ^ 400 := Nat.lt_trans h (by decide +kernel)
def FK (t : Tm) (p : Nat) : Int :=
 if 0 ≤ t.c.num then ((XH 400 (Ve t p) / t.c.den : Nat) : Int)
 else -(if XH 400 (Ve t p) * XH 400 (Ve t p) = Ve t p ∧ XH 400 (Ve t p) % t.c.den = 0 then ((XH 400 (Ve t p) / t.c.den : Nat) : Int) else ((XH 400 (Ve t p) / t.c.den : Nat) : Int) + 1)
theorem Iq {t : Tm} {p : Nat} (h : Ve t p < 10 ^ 215) : FK t p = S4 t p := by
 unfold FK S4
 rw [P5 (eQ h)]
def fD (s : List Tm) : Bool := s.all fun t => decide (t.c ≠ 0) && Nat.blt (Ve t 4) (10 ^ 215) && Nat.blt (Ve t 16) (10 ^ 215) && Nat.blt (Ve t 64) (10 ^ 215)
def Kd (s : List Tm) (p : Nat) : Int := (s.map fun t => FK t p).sum
def Qg (s : List Tm) (p : Nat) : Int := if 0 < Kd s p then 1 else if Kd s p + s.length < 0 then -1 else 0
def N1 (s : List Tm) : Int := if Qg s 4 = 0 then (if Qg s 16 = 0 then Qg s 64 else Qg s 16) else Qg s 4
theorem RU {s : List Tm} (h : fD s = true) {t : Tm} (ht : t ∈ s) : t.c ≠ 0 ∧ Ve t 4 < 10 ^ 215 ∧ Ve t 16 < 10 ^ 215 ∧ Ve t 64 < 10 ^ 215 := by
 unfold fD at h
 have := (List.all_eq_true.1 h) t ht
 simp only [Bool.and_eq_true, decide_eq_true_eq] at this
 exact ⟨this.1.1.1, Nat.le_of_ble_eq_true this.1.1.2, Nat.le_of_ble_eq_true this.1.2, Nat.le_of_ble_eq_true this.2⟩
theorem P6 {s : List Tm} (h : fD s = true) : N1 s = wh s := by
 have key : ∀ p, (∀ t ∈ s, Ve t p < 10 ^ 215) → Qg s p = YE s p := fun p hp => by
  have e : Kd s p = Zk s p := by
   unfold Kd Zk
   congr 1
   exact List.map_congr_left fun t ht => Iq (hp t ht)
  unfold Qg YE
  rw [e]
 unfold N1 wh
 rw [key 4 fun t ht => (RU h ht).2.1, key 16 fun t ht => (RU h ht).2.2.1, key 64 fun t ht => (RU h ht).2.2.2]
theorem jb {s : List Tm} (h0 : Nat.blt 0 s.length = true) (hl : Nat.ble s.length 16 = true) (h : qj s = true) (hs : fD s = true) (hd : N1 s ≠ 0) : gG s := by
 have hm := W3 hl h
 have key : ∀ t ∈ s, ∀ p : Int, (p = 4 ∨ p = 16 ∨ p = 64) → Qq t p := fun t ht p hp => by
  obtain ⟨c0, c1, c2, c3⟩ := RU hs ht
  refine ⟨c0, hm.cs t ht, (Rl h ht).1, by omega, ?_⟩
  rcases hp with rfl | rfl | rfl
  ·exact c1
  ·exact c2
  ·exact c3
 exact ⟨Nat.le_of_ble_eq_true h0, Nat.le_of_ble_eq_true hl, fun t ht => key t ht 4 (by omega), fun _ t ht => key t ht 16 (by omega), fun _ _ t ht => key t ht 64 (by omega), by rw [← P6 hs]; exact hd⟩
def Fh (s t : List Tm) : Bool := okB s && okB t && (Nat.ble (s ++ Zq (-1) t).length 16 && qj (s ++ Zq (-1) t)) && ((xW s t).isEmpty || (Nat.blt 0 (xW s t).length && Nat.ble (xW s t).length 16 && qj (xW s t) && fD (xW s t) && decide (N1 (xW s t) ≠ 0)))
def Fe (s t : List Tm) : Int := if (xW s t).length = 0 then 0 else N1 (xW s t)
theorem iQ {s t : List Tm} (h : Fh s t = true) : fg s t ∧ Fe s t = OI s t := by
 unfold Fh at h
 simp only [Bool.and_eq_true, Bool.or_eq_true, decide_eq_true_eq, List.isEmpty_iff] at h
 obtain ⟨⟨⟨h1, h2⟩, h3, h4⟩, h5⟩ := h
 refine ⟨⟨vg h1, vg h2, W3 h3 h4, ?_⟩, ?_⟩
 ·rcases h5 with e | ⟨⟨⟨⟨a, b⟩, c⟩, d⟩, e⟩
  ·exact .inl e
  ·exact .inr (jb a b c d e)
 ·unfold Fe OI
  rcases h5 with e | ⟨⟨⟨⟨a, b⟩, c⟩, d⟩, e⟩
  ·rw [e, List.length_nil, if_pos rfl, if_pos rfl]
  ·rw [P6 d]
def FL (s : List Tm) (a : Rat) : Bool := Rj 60 a && qj [⟨a, 1⟩] && Fh (Ja a) s
def rU (s : List Tm) (a : Rat) : Int := -Fe (Ja a) s
theorem IB {s : List Tm} {a : Rat} (h : FL s a = true) : JN s a ∧ rU s a = Ye s a := by
 unfold FL at h
 simp only [Bool.and_eq_true] at h
 obtain ⟨h1, h2⟩ := iQ h.2
 exact ⟨⟨yn h.1.1, W3 rfl h.1.2, h1⟩, by unfold rU Ye; rw [h2]⟩
def fS (q u : Rat) : Rat := ((XH 400 (WV (q / (u * u))).toNat : Nat) : Rat) * u
def ER (q u : Rat) : Bool := Nat.blt (WV (q / (u * u))).toNat (10 ^ 215)
theorem JC {q u : Rat} (h : ER q u = true) : fS q u = NM q u ∧ ((XH 400 (WV (q / (u * u))).toNat : Nat) : Rat) = (Io q u : Rat) := by
 have h := P5 (eQ (Nat.le_of_ble_eq_true h))
 unfold fS NM Io
 rw [h]
 exact ⟨rfl, rfl⟩
def oN (t : Tm) (f : Rat) : Rat := if t.c < 0 then -fS (t.c * t.c * t.q) f else fS (t.c * t.c * t.q) f
def Fo (t : Tm) (f : Rat) : Bool := Rj 60 t.c && Rj 60 t.q && Rj 140 (t.c * t.c) && Rj 60 (t.c * t.c * t.q) && decide (0 ≤ t.c * t.c * t.q) && Rj 60 f && decide (0 < f) && ER (t.c * t.c * t.q) f && Rj 140 ((XH 400 (WV (t.c * t.c * t.q / (f * f))).toNat : Nat) : Rat) && Rj 140 (fS (t.c * t.c * t.q) f)
theorem pE {t : Tm} {f : Rat} (h : Fo t f = true) : gj t f ∧ oN t f = w8 t f := by
 unfold Fo at h
 simp only [Bool.and_eq_true, decide_eq_true_eq] at h
 obtain ⟨⟨⟨⟨⟨⟨⟨⟨⟨a, b⟩, c⟩, d⟩, e⟩, f1⟩, g⟩, r⟩, o⟩, z⟩ := h
 obtain ⟨r1, r2⟩ := JC r
 rw [r2] at o
 rw [r1] at z
 exact ⟨⟨yn a, yn b, yn c, yn d, e, yn f1, g, yn o, yn z⟩, by unfold oN w8; rw [r1]⟩
def U0 (s : List Tm) (f : Rat) : Rat := (s.map fun t => oN t f).sum
def Ui (s : List Tm) (u : Rat) : Rat := (WV (U0 s (u * (1 / 1000)) / u) : Int) * u - u
def FB (s : List Tm) (u : Rat) : Bool := Nat.ble s.length 16 && Rj 60 u && Rj 60 (u * (1 / 1000)) && (s.all fun t => Fo t (u * (1 / 1000)) && Rj 140 (oN t (u * (1 / 1000)))) && ((List.range (s.length + 1)).all fun z => Rj 140 (U0 (s.take z) (u * (1 / 1000)))) && decide (u ≠ 0) && Rj 140 (U0 s (u * (1 / 1000)) / u) && Rj 140 ((WV (U0 s (u * (1 / 1000)) / u) : Int) : Rat) && Rj 140 (((WV (U0 s (u * (1 / 1000)) / u) : Int) : Rat) * u)
theorem i7 {s : List Tm} {u : Rat} (h : FB s u = true) : gM s u ∧ Ui s u = wy s u := by
 unfold FB at h
 simp only [Bool.and_eq_true, decide_eq_true_eq, List.all_eq_true] at h
 obtain ⟨⟨⟨⟨⟨⟨⟨⟨a, b⟩, c⟩, d⟩, e⟩, f⟩, g⟩, i⟩, j⟩ := h
 have key : ∀ z, U0 (s.take z) (u * (1 / 1000)) = vn (s.take z) (u * (1 / 1000)) := fun z => by
  unfold U0 vn
  congr 1
  exact List.map_congr_left fun t ht => (pE (d t (List.mem_of_mem_take ht)).1).2
 have k0 := key s.length
 rw [List.take_length] at k0
 rw [k0] at g i j
 refine ⟨⟨Nat.le_of_ble_eq_true a, yn b, yn c, fun t ht => (pE (d t ht).1).1, fun t ht => ?_, fun z => ?_, f, yn g, yn i, yn j⟩, ?_⟩
 ·rw [← (pE (d t ht).1).2]
  exact yn (d t ht).2
 ·rw [← key]
  rcases Nat.lt_or_ge z (s.length + 1) with h | h
  ·exact yn (e z (List.mem_range.2 h))
  ·have := yn (e s.length (List.mem_range.2 (by omega)))
   rw [List.take_of_length_le (by omega)] at this ⊢
   exact this
 ·unfold Ui wy
  rw [k0]
def TZ (s : List Tm) (u : Rat) (i : Nat) : Rat := Ui s u + (i : Rat) * u
def kS (s : List Tm) (u : Rat) : Nat → Nat → Tm
 | 0, _ => ⟨0, 0⟩
 | k + 1, i => if rU s (TZ s u (i + 1)) = 0 then ⟨TZ s u (i + 1), TZ s u (i + 1)⟩ else if 0 < rU s (TZ s u i) ∧ rU s (TZ s u (i + 1)) < 0 then ⟨TZ s u i, TZ s u (i + 1)⟩ else kS s u k (i + 1)
def F4 (s : List Tm) (u : Rat) : Tm := if rU s (Ui s u) = 0 then ⟨Ui s u, Ui s u⟩ else kS s u (s.length + 4) 0
def eW (s : List Tm) (u : Rat) : Bool := FB s u && ((List.range (s.length + 5)).all fun i => FL s (TZ s u i)) && decide (0 ≤ rU s (Ui s u)) && ((List.range (s.length + 5)).any fun i => decide (rU s (TZ s u i) ≤ 0))
theorem HI {s : List Tm} {u : Rat} (h : eW s u = true) : gK s u ∧ F4 s u = wq s u := by
 unfold eW at h
 simp only [Bool.and_eq_true, decide_eq_true_eq, List.all_eq_true, List.any_eq_true] at h
 obtain ⟨⟨⟨a, b⟩, c⟩, k, d, e⟩ := h
 obtain ⟨n1, n2⟩ := i7 a
 have el : ∀ i, TZ s u i = yj s u i := fun i => by unfold TZ yj; rw [n2]
 have ob : ∀ i, i ≤ s.length + 4 → JN s (yj s u i) ∧ rU s (yj s u i) = Ye s (yj s u i) := fun i hi => by
  have := IB (b i (List.mem_range.2 (by omega)))
  rwa [el] at this
 have l0 : yj s u 0 = wy s u := by unfold yj; grind
 have o0 := ob 0 (by omega)
 rw [l0] at o0
 rw [n2, o0.2] at c
 have hk : k ≤ s.length + 4 := by have := List.mem_range.1 d; omega
 rw [el, (ob k hk).2] at e
 refine ⟨⟨n1, fun i hi => (ob i hi).1, c, k, hk, e⟩, ?_⟩
 have key : ∀ m i, i + m ≤ s.length + 4 → kS s u m i = L0 s u m i := by
  intro m
  induction m with
  | zero => intro i _; rfl
  | succ m ih =>
   intro i hi
   unfold kS L0
   rw [el, el, (ob i (by omega)).2, (ob (i + 1) (by omega)).2, ih (i + 1) (by omega)]
 unfold F4 wq
 rw [n2, o0.2, key _ 0 (by omega)]
def Em (s : List Tm) (p : Nat) : Bool := okB s && (s.all fun t => Rj 20 t.c) && Nat.ble p 40 && eW s (Wu p)
theorem lF {s : List Tm} {p : Nat} (h : Em s p = true) : lu s p ∧ F4 s (Wu p) = wq s (Wu p) := by
 unfold Em at h
 simp only [Bool.and_eq_true, List.all_eq_true] at h
 obtain ⟨⟨⟨a, b⟩, c⟩, d⟩ := h
 obtain ⟨e1, e2⟩ := HI d
 have hp := Nat.le_of_ble_eq_true c
 exact ⟨⟨⟨vg a, fun t ht => yn (b t ht)⟩, ⟨by omega, by omega⟩, by rw [Int.toNat_natCast]; exact e1⟩, e2⟩
end Go.Te
