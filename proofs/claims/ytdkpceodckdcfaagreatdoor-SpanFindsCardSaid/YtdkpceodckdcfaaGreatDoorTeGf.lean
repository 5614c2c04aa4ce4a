/- kingpostref09: Check, Sub. -/
import Derived.Test.YtdkpceodckdcfaaGreatDoorTeGd
set_option linter.unusedSimpArgs false
set_option linter.unusedVariables false
namespace Go.Te
open Go Go.Sx Go.Proofs Go.Ar
set_option maxRecDepth 100000
set_option maxHeartbeats 4000000
def Rs (a : zD) : Prop := a.x.length ≤ 100000000 ∧ a.y.length ≤ 100000000 ∧ a.z.length ≤ 100000000
def UT : List AV → Option (List zN × AV)
 | [.agg 3 p_a] => some ([.b (ZO (p_a 0) && ZO (p_a 1) && ZO (p_a 2)), .p (Rs (⟨AV.bytes (p_a 0), AV.bytes (p_a 1), AV.bytes (p_a 2)⟩ : zD))], .i (YU (⟨AV.bytes (p_a 0), AV.bytes (p_a 1), AV.bytes (p_a 2)⟩ : zD)))
 | _ => none
theorem MZ (G : List (Nat × Obj)) (a : zD) (hl : Rs a) :
 zB [AV.agg 3 (zp.enc a)] → lN (zD.x a) ≤ 100000000 ∧ zZ (zo (zD.x a) != iZ) (kI ∧ zo (zD.x a) = YU a) (lN (zD.y a) ≤ 100000000 ∧ zZ (zo (zD.y a) != iZ) (kI ∧ zo (zD.y a) = YU a) (lN (zD.z a) ≤ 100000000 ∧ kI ∧ zo (zD.z a) = YU a)) := by
 delta kI lN iZ
 intro hb
 simp only [sS, dS]
 obtain ⟨l1, l2, l3⟩ := hl
 refine ⟨l1, fun h => ?_, fun h1 => ⟨l2, fun h => ?_, fun h2 => ⟨l3, ?_⟩⟩⟩
 ·unfold YU; rw [bne_iff_ne.2 h]; rfl
 ·unfold YU; rw [h1, bne_iff_ne.2 h]; rfl
 ·unfold YU; rw [h1, h2]; rfl
theorem jZ {G : List (Nat × Obj)} (hG : zM G) (a : zD) (hl : Rs a) : zS Tryz.prog G 135 [yx a] (.i (YU a)) :=
 zV (T := (wn G).plus 12 X6) (an := .auto) mixed (zY.plus zr (VG hG)) (Eq.mp (by kernel_rfl) (MZ G a hl))
theorem Pk {G : List (Nat × Obj)} (hG : zM G) : zQ Tryz.prog G 135 UT := by
 intro xs ps r h hp
 unfold UT at h
 split at h
 ·skip
  rename_i p_a
  cases h
  obtain ⟨q0, q1, -⟩ := Zx hp
  exact weaken (ys := [yx (⟨AV.bytes (p_a 0), AV.bytes (p_a 1), AV.bytes (p_a 2)⟩ : zD)]) ⟨zH (x := .agg 3 p_a) (α := zD) q0, trivial⟩ (jZ hG (⟨AV.bytes (p_a 0), AV.bytes (p_a 1), AV.bytes (p_a 2)⟩ : zD) q1)
 ·cases h
def UH : List AV → Option (List zN × AV)
 | [.agg 3 p_a, .agg 3 p_b] => some ([.b (ZO (p_a 0) && ZO (p_a 1) && ZO (p_a 2)), .b (ZO (p_b 0) && ZO (p_b 1) && ZO (p_b 2)), .p (Rs (⟨AV.bytes (p_a 0), AV.bytes (p_a 1), AV.bytes (p_a 2)⟩ : zD)), .p (Rs (⟨AV.bytes (p_b 0), AV.bytes (p_b 1), AV.bytes (p_b 2)⟩ : zD))], .i (bif YU (⟨AV.bytes (p_a 0), AV.bytes (p_a 1), AV.bytes (p_a 2)⟩ : zD) != 0 then YU (⟨AV.bytes (p_a 0), AV.bytes (p_a 1), AV.bytes (p_a 2)⟩ : zD) else YU (⟨AV.bytes (p_b 0), AV.bytes (p_b 1), AV.bytes (p_b 2)⟩ : zD)))
 | _ => none
theorem no (G : List (Nat × Obj)) (a : zD) (b : zD) (ha : Rs a) (hb' : Rs b) :
 let q1 := (zD.mk (AV.bytes (AV.str (zD.x a))) (AV.bytes (AV.str (zD.y a))) (AV.bytes (AV.str (zD.z a)))); let q2 := (zD.mk (AV.bytes (AV.str (zD.x b))) (AV.bytes (AV.str (zD.y b))) (AV.bytes (AV.str (zD.z b)))); zB [AV.agg 3 (zp.enc a), AV.agg 3 (zp.enc b)] → (lN (zD.x q1) ≤ 100000000 ∧ lN (zD.y q1) ≤ 100000000 ∧ lN (zD.z q1) ≤ 100000000) ∧ zZ (YU q1 != iZ) (kI ∧ YU q1 = bif YU a != iZ then YU a else YU b) ((lN (zD.x q2) ≤ 100000000 ∧ lN (zD.y q2) ≤ 100000000 ∧ lN (zD.z q2) ≤
 100000000) ∧ kI ∧ YU q2 = bif YU a != iZ then YU a else YU b) := by
 delta kI lN iZ
 dsimp only
 intro hb
 have spS : (∀ m : zD, AV.bytes (zp.enc m 0) = m.x) ∧ (∀ m : zD, AV.bytes (zp.enc m 1) = m.y) ∧ (∀ m : zD, AV.bytes (zp.enc m 2) = m.z) := ⟨fun _ => rfl, fun _ => rfl, fun _ => rfl⟩
 simp only [sS, dS, spS, kv]
 exact ⟨ha, fun h => by rw [bne_iff_ne.2 h]; rfl, fun h => ⟨hb', by rw [h]; rfl⟩⟩
theorem Mq {G : List (Nat × Obj)} (hG : zM G) (a : zD) (b : zD) (ha : Rs a) (hb' : Rs b) : zS Tryz.prog G 197 [yx a, yx b] (.i (bif YU a != 0 then YU a else YU b)) :=
 zV (T := (wn G).plus 135 UT) (an := .auto) mixed (zY.plus zr (Pk hG)) (Eq.mp (by kernel_rfl) (no G a b ha hb'))
theorem Lv {G : List (Nat × Obj)} (hG : zM G) : zQ Tryz.prog G 197 UH := by
 intro xs ps r h hp
 unfold UH at h
 split at h
 ·skip
  rename_i p_a p_b
  cases h
  obtain ⟨q0, q1, q2, q3, -⟩ := Zx hp
  exact weaken (ys := [yx (⟨AV.bytes (p_a 0), AV.bytes (p_a 1), AV.bytes (p_a 2)⟩ : zD), yx (⟨AV.bytes (p_b 0), AV.bytes (p_b 1), AV.bytes (p_b 2)⟩ : zD)]) ⟨zH (x := .agg 3 p_a) (α := zD) q0, zH (x := .agg 3 p_b) (α := zD) q1, trivial⟩ (Mq hG (⟨AV.bytes (p_a 0), AV.bytes (p_a 1), AV.bytes (p_a 2)⟩ : zD) (⟨AV.bytes (p_b 0), AV.bytes (p_b 1), AV.bytes (p_b 2)⟩ : zD) q2 q3)
 ·cases h
def uY : List AV → Option (List zN × AV)
 | [.v (.int .i64 e), .v (.int .i64 f), .v (.int .i64 g)] => some ([], .i (bif e != 0 then e else bif f != 0 then f else g))
 | _ => none
theorem Qr (e : Int) (f : Int) (g : Int) :
 zB [aI e, aI f, aI g] → zZ (e != iZ) (kI ∧ e = bif e != iZ then e else bif f != iZ then f else g) (zZ (f != iZ) (kI ∧ f = bif e != iZ then e else bif f != iZ then f else g) (kI ∧ g = bif e != iZ then e else bif f != iZ then f else g)) := by
 delta kI iZ aI
 intro hb
 simp only [sS, dS]
 exact ⟨fun h => by rw [bne_iff_ne.2 h]; rfl, fun h => ⟨fun h2 => by rw [h, bne_iff_ne.2 h2]; rfl, fun h2 => by rw [h, h2]; rfl⟩⟩
theorem Oe (e : Int) (f : Int) (g : Int) : zS Tryz.prog [] 200 [.i e, .i f, .i g] (.i (bif e != 0 then e else bif f != 0 then f else g)) :=
 zV (T := T0) (an := .auto) mixed zr (Eq.mp (by kernel_rfl) (Qr e f g))
theorem Oa : zQ Tryz.prog [] 200 uY := by
 intro xs ps r h hp
 unfold uY at h
 split at h
 ·skip
  rename_i e f g
  cases h
  exact weaken (ys := [.i e, .i f, .i g]) ⟨zX _, zX _, zX _, trivial⟩ (Oe e f g)
 ·cases h
noncomputable def GF (G : List (Nat × Obj)) : Tb := ((((wn G).plus 197 UH).plus 200 uY).plus 198 S6).body Tryz.prog [(199, .auto)]
theorem oC {G : List (Nat × Obj)} (hG : zM G) : zY Tryz.prog (GF G) := zY.body mixed (zY.plus (zY.plus (zY.plus zr (Lv hG)) (zQ.mono Oa)) (kg hG)) _
def S7 : List AV → Option (List zN × AV)
 | [.agg 3 p_a, .agg 3 p_b] => some ([.b (ZO (p_a 0) && ZO (p_a 1) && ZO (p_a 2)), .b (ZO (p_b 0) && ZO (p_b 1) && ZO (p_b 2)), .p (Rs (⟨AV.bytes (p_a 0), AV.bytes (p_a 1), AV.bytes (p_a 2)⟩ : zD)), .p (Rs (⟨AV.bytes (p_b 0), AV.bytes (p_b 1), AV.bytes (p_b 2)⟩ : zD))], .tup 2 (zT [yx (wx (⟨AV.bytes (p_a 0), AV.bytes (p_a 1), AV.bytes (p_a 2)⟩ : zD) (⟨AV.bytes (p_b 0), AV.bytes (p_b 1), AV.bytes (p_b 2)⟩ : zD)), .i (Ws (⟨AV.bytes (p_a 0), AV.bytes (p_a 1), AV.bytes (p_a 2)⟩ : zD) (⟨AV.bytes (p_b 0), AV.bytes (p_b 1), AV.bytes (p_b 2)⟩ : zD))]))
 | _ => none
theorem LL (G : List (Nat × Obj)) (a : zD) (b : zD) (ha : Rs a) (hb' : Rs b) :
 let q1 := (zD.mk (AV.bytes (AV.str (zD.x a))) (AV.bytes (AV.str (zD.y a))) (AV.bytes (AV.str (zD.z a)))); let q2 := (zD.mk (AV.bytes (AV.str (zD.x b))) (AV.bytes (AV.str (zD.y b))) (AV.bytes (AV.str (zD.z b)))); let q3 := (bif YU q1 != iZ then YU q1 else YU q2); let q4 := (True ∧ 3 = 3 ∧ (bA #[] = zD.x (wx a b) ∧ bA #[] = zD.y (wx a b)) ∧ bA #[] = zD.z (wx a b)); let q5 := (bif yD (fun (x1 x2 : Int) => x1 - x2) (zD.x a) (zD.x b) != iZ
 then yD (fun (x1 x2 : Int) => x1 - x2) (zD.x a) (zD.x b) else bif yD (fun (x1 x2 : Int) => x1 - x2) (zD.y a) (zD.y b) != iZ then yD (fun (x1 x2 : Int) => x1 - x2) (zD.y a) (zD.y b) else yD (fun (x1 x2 : Int) => x1 - x2) (zD.z a) (zD.z b)); zB [AV.agg 3 (zp.enc a), AV.agg 3 (zp.enc b)] → (lN (zD.x q1) ≤ 100000000 ∧ lN (zD.y q1) ≤ 100000000 ∧ lN (zD.z q1) ≤ 100000000) ∧ (lN (zD.x q2) ≤ 100000000 ∧ lN (zD.y q2) ≤ 100000000 ∧ lN (zD.z q2) ≤ 100000000) ∧ zZ (q3 != iZ) (j2 ∧
 q4 ∧ kI ∧ q3 = Ws a b) (lN (zD.x a) ≤ 100000000 ∧ lN (zD.x b) ≤ 100000000 ∧ lN (zD.y a) ≤ 100000000 ∧ lN (zD.y b) ≤ 100000000 ∧ lN (zD.z a) ≤ 100000000 ∧ lN (zD.z b) ≤ 100000000 ∧ zZ (q5 != iZ) (j2 ∧ q4 ∧ kI ∧ q5 = Ws a b) (j2 ∧ (True ∧ 3 = 3 ∧ (YD (fun (x1 x2 : Int) => x1 - x2) (zD.x a) (zD.x b) = zD.x (wx a b) ∧ YD (fun (x1 x2 : Int) => x1 - x2) (zD.y a) (zD.y b) = zD.y (wx a b)) ∧ YD (fun (x1 x2 : Int) => x1 - x2)
 (zD.z a) (zD.z b) = zD.z (wx a b)) ∧ kI ∧ iZ = Ws a b)) := by
 delta bA kI j2 lN iZ
 dsimp only
 intro hb
 have spS : (∀ m : zD, AV.bytes (zp.enc m 0) = m.x) ∧ (∀ m : zD, AV.bytes (zp.enc m 1) = m.y) ∧ (∀ m : zD, AV.bytes (zp.enc m 2) = m.z) := ⟨fun _ => rfl, fun _ => rfl, fun _ => rfl⟩
 simp only [sS, dS, spS, kv]
 have e : Ws a b = bif (bif YU a != 0 then YU a else YU b) != 0 then (bif YU a != 0 then YU a else YU b) else bif yD (fun x1 x2 => x1 - x2) a.x b.x != 0 then yD (fun x1 x2 => x1 - x2) a.x b.x else bif yD (fun x1 x2 => x1 - x2) a.y b.y != 0 then yD (fun x1 x2 => x1 - x2) a.y b.y else yD (fun x1 x2 => x1 - x2) a.z b.z := by
  unfold Ws
  by_cases h : YU a = 0
  ·rw [h]; rfl
  ·rw [bne_iff_ne.2 h, cond_true, cond_true, bne_iff_ne.2 h]; rfl
 generalize (bif YU a != 0 then YU a else YU b) = v at *
 generalize hw : (bif yD (fun x1 x2 => x1 - x2) a.x b.x != 0 then yD (fun x1 x2 => x1 - x2) a.x b.x else bif yD (fun x1 x2 => x1 - x2) a.y b.y != 0 then yD (fun x1 x2 => x1 - x2) a.y b.y else yD (fun x1 x2 => x1 - x2) a.z b.z) = w at *
 have bad : ∀ e : Int, e ≠ 0 → e = Ws a b → 2 = [AV.junk, AV.junk].length ∧ (([] = (wx a b).x ∧ [] = (wx a b).y) ∧ [] = (wx a b).z) ∧ e = Ws a b := fun e h0 h => by
  have e1 : wx a b = ⟨[], [], []⟩ := by unfold wx; rw [← h, beq_eq_false_iff_ne.2 h0]; rfl
  rw [e1]
  exact ⟨rfl, ⟨⟨rfl, rfl⟩, rfl⟩, h⟩
 refine ⟨ha, hb', fun h => bad _ h (by rw [e, bne_iff_ne.2 h]; rfl), fun h => ⟨ha.1, hb'.1, ha.2.1, hb'.2.1, ha.2.2, hb'.2.2, fun h2 => bad _ h2 (by rw [e, h]; rfl), fun h2 => ?_⟩⟩
 have e0 : Ws a b = 0 := by rw [e, h, h2]; rfl
 have e1 : wx a b = ⟨YD (· - ·) a.x b.x, YD (· - ·) a.y b.y, YD (· - ·) a.z b.z⟩ := by unfold wx; rw [e0]; rfl
 rw [e0, e1]
 exact ⟨rfl, ⟨⟨rfl, rfl⟩, rfl⟩, rfl⟩
theorem Ke {G : List (Nat × Obj)} (hG : zM G) (a : zD) (b : zD) (ha : Rs a) (hb' : Rs b) : zS Tryz.prog G 136 [yx a, yx b] (.tup 2 (zT [yx (wx a b), .i (Ws a b)])) :=
 zV (T := GF G) (an := .auto) mixed (oC hG) (Eq.mp (by kernel_rfl) (LL G a b ha hb'))
theorem ju {G : List (Nat × Obj)} (hG : zM G) : zQ Tryz.prog G 136 S7 := by
 intro xs ps r h hp
 unfold S7 at h
 split at h
 ·skip
  rename_i p_a p_b
  cases h
  obtain ⟨q0, q1, q2, q3, -⟩ := Zx hp
  exact weaken (ys := [yx (⟨AV.bytes (p_a 0), AV.bytes (p_a 1), AV.bytes (p_a 2)⟩ : zD), yx (⟨AV.bytes (p_b 0), AV.bytes (p_b 1), AV.bytes (p_b 2)⟩ : zD)]) ⟨zH (x := .agg 3 p_a) (α := zD) q0, zH (x := .agg 3 p_b) (α := zD) q1, trivial⟩ (Ke hG (⟨AV.bytes (p_a 0), AV.bytes (p_a 1), AV.bytes (p_a 2)⟩ : zD) (⟨AV.bytes (p_b 0), AV.bytes (p_b 1), AV.bytes (p_b 2)⟩ : zD) q2 q3)
 ·cases h
end Go.Te

namespace Go.Te
open Go Go.Sx Go.Proofs Go.Ar
set_option maxRecDepth 100000
set_option maxHeartbeats 4000000
section
variable {H : Type} {enc : TypeId × Value → H} {W : World} {spare : Nat → Bool} {held : Bool}
end
theorem ws {l : List Row} {w d s q : Int} : yr l w d s q = 0 ↔ Y4 l = 0 ∧ (1 ≤ w ∧ w ≤ 1000) ∧ (1 ≤ d ∧ d ≤ 1000) ∧ (1 ≤ s ∧ s ≤ 65536) ∧ (0 ≤ q ∧ q ≤ 1048576) := by
 have hr : yc w d s q = true ↔ (1 ≤ w ∧ w ≤ 1000) ∧ (1 ≤ d ∧ d ≤ 1000) ∧ (1 ≤ s ∧ s ≤ 65536) ∧ (0 ≤ q ∧ q ≤ 1048576) := by
  unfold yc Vt
  rw [Bool.and_eq_true, Bool.and_eq_true, Bool.and_eq_true, Z2, Z2, Z2, Z2]
  constructor
  ·rintro ⟨⟨a, b⟩, c, d⟩; exact ⟨a, b, c, d⟩
  ·rintro ⟨a, b, c, d⟩; exact ⟨⟨a, b⟩, c, d⟩
 rw [← hr]
 unfold yr
 cases ht : Y4 l != 0 with
 | true =>
  rw [bne_iff_ne] at ht
  exact ⟨fun h => (by cases h), fun h => absurd h.1 ht⟩
 | false =>
  rw [bne_eq_false_iff_eq] at ht
  cases hq : yc w d s q with
  | true => exact ⟨fun _ => ⟨ht, rfl⟩, fun _ => rfl⟩
  | false => exact ⟨fun h => (by cases h), fun h => (by cases h.2)⟩
end Go.Te
