/- integer: Check, small; what they use of strings and strconv. -/
import Derived.Test.YtdkpceodckdcfaaGreatDoorTeIa
import Derived.Test.YtdkpceodckdcfaaGreatDoorArO
import Derived.Test.YtdkpceodckdcfaaGreatDoorSxS
import Derived.Shelf.Strings.Builder1
import Derived.Test.YtdkpceodckdcfaaGreatDoorProg
import Derived.Test.YtdkpceodckdcfaaGreatDoorSxU
import Derived.Test.YtdkpceodckdcfaaGreatDoorTeJ
set_option linter.unusedSimpArgs false
set_option linter.unusedVariables false
namespace Go.Te
open Go Go.Sx Go.Proofs Go.Ar Go.RowKit
set_option maxRecDepth 100000
set_option maxHeartbeats 4000000
def JG : List AV → Option (List zN × AV)
 | [.str s, .str p] => some ([], .b (Lib.hasPrefix s p))
 | _ => none
theorem GX : zQ Tryz.prog [] 151 JG := by
 intro xs ps r h hp
 unfold JG at h
 split at h
 ·rename_i s p
  cases h
  refine ⟨enters_of Tryz.func151 (by kernel_rfl) rfl, fun w S vals hS hg hr => ?_⟩
  match vals, hr with
  | [v, v2], ⟨hv, hv2, _⟩ =>
  obtain rfl := yU hv
  obtain rfl := yU hv2
  refine (Tryz.stringslite_HasPrefix ⟨s.toArray⟩ ⟨p.toArray⟩ w).mono ?_
  rintro e w' ⟨rfl, rfl⟩
  exact ⟨⟨Below.refl _ _, Nat.le_refl _⟩, _, rfl, .v _⟩
 ·cases h
theorem QN (s : zh) : Lib.hasPrefix s [45] = zd s := by
 unfold Lib.hasPrefix zd
 match s with
 | [] => rfl
 | c :: r => simp [List.isPrefixOf, Bool.beq_comm]
noncomputable def gA : Tb := (T0.plus 151 JG).body Tryz.prog [(101, .auto), (241, .auto)]
theorem Vf : zY Tryz.prog gA := zY.body mixed (zY.plus zr GX) _
def xE (g : zh → AV) : List AV → Option (List zN × AV)
 | [.str s, .str p] => some ([.b (p == [45])], g s)
 | _ => none
theorem py {f : FuncId} {g : zh → AV} (hf : ∀ s : zh, zS Tryz.prog [] f [.str s, .str [45]] (g s)) : zQ Tryz.prog [] f (xE g) := by
 intro xs ps r h hp
 unfold xE at h
 split at h
 ·rename_i s p
  cases h
  have q : (p == [45]) = true := hp _ List.mem_cons_self
  obtain rfl := eq_of_beq q
  exact hf s
 ·cases h
theorem QK {s : zh} (h : zd s = true) : s.drop 1 = zR s ∧ 1 ≤ s.length := by
 refine ⟨by unfold zR; rw [h]; rfl, ?_⟩
 match s, h with
 | [], h => cases h
 | c :: r, _ => simp
theorem Sf {s : zh} (h : zd s = false) : s = zR s := by unfold zR; rw [h]; rfl
theorem MW (s : zh) :
 zB [AV.str s, AV.str [(45 : UInt8)]] → zZ (Lib.hasPrefix s [(45 : UInt8)]) (bF (DB.db (iZ ≤ (↑1 : Int) ∧ (↑1 : Int) ≤ (lZ s))) (List.drop 1 s = zR s)) (s = zR s) := by
 delta bF lZ iZ
 intro hb
 simp only [sS, dS, QN]
 refine zu.2 ⟨fun c => ?_, fun c => Sf c⟩
 obtain ⟨h1, h2⟩ := QK c
 exact ⟨⟨by omega, by omega⟩, h1⟩
theorem kl (s : zh) :
 zB [AV.str s, AV.str [(45 : UInt8)]] → zZ (!Lib.hasPrefix s [(45 : UInt8)]) (j2 ∧ (True ∧ s = zR s) ∧ false = zd s) (bF (DB.db (iZ ≤ (↑1 : Int) ∧ (↑1 : Int) ≤ (lZ s))) (j2 ∧ (True ∧ List.drop 1 s = zR s) ∧ true = zd s)) := by
 delta bF j2 lZ iZ
 intro hb
 simp only [sS, dS, QN]
 refine zu.2 ⟨fun c => ?_, fun c => ?_⟩
 ·rw [Bool.not_eq_true'] at c
  exact ⟨rfl, Sf c, c.symm⟩
 ·rw [Bool.not_eq_false'] at c
  obtain ⟨h1, h2⟩ := QK c
  exact ⟨⟨by omega, by omega⟩, rfl, h1, c.symm⟩
theorem jF (s : zh) :
 zB [AV.str s, AV.str [(45 : UInt8)]] → Lib.hasPrefix s [(45 : UInt8)] = zd s := by
 intro hb
 simp only [sS, dS, QN]
theorem SJ : zQ Tryz.prog [] 44 (xE fun s => .str (zR s)) :=
 py fun s => zV mixed Vf (Eq.mp (by kernel_rfl) (MW s) : SK Tryz.prog gA 44 .auto [.str s, .str [45]] (.str (zR s)))
theorem Q7 : zQ Tryz.prog [] 210 (xE fun s => .tup 2 (zT [.str (zR s), .b (zd s)])) :=
 py fun s => zV mixed Vf (Eq.mp (by kernel_rfl) (kl s) : SK Tryz.prog gA 210 .auto [.str s, .str [45]] (.tup 2 (zT [.str (zR s), .b (zd s)])))
theorem I1 : zQ Tryz.prog [] 189 (xE fun s => .b (zd s)) :=
 py fun s => zV mixed Vf (Eq.mp (by kernel_rfl) (jF s) : SK Tryz.prog gA 189 .auto [.str s, .str [45]] (.b (zd s)))
def VQ : zh := [48, 49, 50, 51, 52, 53, 54, 55, 56, 57]
theorem Mm (c : UInt8) : VQ.contains c = Zm c := by
 have key : ∀ n : Fin 256, VQ.contains (UInt8.ofNat n.val) = Zm (UInt8.ofNat n.val) := by decide +kernel
 have := key ⟨c.toNat, c.toNat_lt⟩
 simpa using this
theorem W8 {p : UInt8 → Bool} : ∀ {l : zh}, l.dropWhile p = [] ↔ l.all p = true
 | [] => by simp
 | c :: r => by
  rw [List.dropWhile_cons, List.all_cons]
  cases h : p c with
  | true => simp only [if_true, Bool.true_and]; exact W8
  | false => simp
theorem U6 {p : UInt8 → Bool} : ∀ {l : zh} {c : UInt8} {r : zh}, l.dropWhile p = c :: r → p c = false
 | [], _, _, h => by cases h
 | x :: l, c, r, h => by
  rw [List.dropWhile_cons] at h
  cases hx : p x with
  | true => rw [hx, if_pos rfl] at h; exact U6 h
  | false => rw [hx] at h; simp only [Bool.false_eq_true, if_false, List.cons.injEq] at h; rw [← h.1]; exact hx
theorem OP (s : zh) : (Lib.trimS s VQ == []) = s.all Zm := by
 have hp : (fun c => VQ.contains c) = Zm := funext Mm
 unfold Lib.trimS Lib.trimLeftS Lib.trimRightS
 rw [hp, Bool.eq_iff_iff, beq_iff_eq, W8, List.all_reverse]
 constructor
 ·intro h
  rw [← List.all_reverse, ← W8]
  cases hd : s.reverse.dropWhile Zm with
  | nil => rfl
  | cons c r =>
   rw [hd, List.all_cons, U6 hd] at h
   cases h
 ·intro h
  rw [W8.2 (by rw [List.all_reverse]; exact h)]
  rfl
def QQ : List AV → Option (List zN × AV)
 | [.str s, .str c] => some ([.b (c == VQ), .p (s.length ≤ 4294967280)], .str (Lib.trimS s VQ))
 | _ => none
theorem JL : zQ Tryz.prog [] 238 QQ := by
 intro xs ps r h hp
 unfold QQ at h
 split at h
 ·rename_i s c
  cases h
  have q : (c == VQ) = true := hp _ List.mem_cons_self
  have hl : s.length ≤ 4294967280 := hp _ (List.mem_cons_of_mem _ List.mem_cons_self)
  obtain rfl := eq_of_beq q
  refine ⟨enters_of Tryz.func238 (by kernel_rfl) rfl, fun w S vals hS hg hr => ?_⟩
  match vals, hr with
  | [v, v2], ⟨hv, hv2, _⟩ =>
  obtain rfl := yU hv
  obtain rfl := yU hv2
  have hsz : (⟨s.toArray⟩ : ByteArray).size = s.length := rfl
  by_cases h0 : s.length = 0
  ·refine (Any.strings_Trim_empty Tryz.lays160 ⟨s.toArray⟩ ⟨VQ.toArray⟩ w (.inl h0)).mono ?_
   rintro e w' ⟨rfl, rfl⟩
   have he : s = [] := List.eq_nil_of_length_eq_zero h0
   subst he
   exact ⟨⟨Below.refl _ _, Nat.le_refl _⟩, _, rfl, .str _⟩
  ·refine (Any.strings_Trim_set Tryz.lays160 (by intro w; kernel_rfl) (by kernel_rfl) ⟨s.toArray⟩ ⟨VQ.toArray⟩ w (by decide) (by omega) (by omega) (by decide) (by
    intro j b hj
    have : b ∈ VQ := List.mem_of_getElem? hj
    revert this
    exact (show ∀ x ∈ VQ, x.toNat < 128 by decide) b)).mono ?_
   rintro e w' ⟨rfl, q, rfl⟩
   refine ⟨⟨⟨rfl, rfl, rfl, ?_, fun b hb => ?_⟩, HH (Nat.le_add_right _ _)⟩, _, rfl, .str _⟩
   ·show w.heap.size ≤ ((w.heap.push _).push _).size
    rw [Array.size_push, Array.size_push]; omega
   ·show ((w.heap.push _).push _)[b]? = _
    rw [Array.getElem?_push, if_neg (by rw [Array.size_push]; omega), Array.getElem?_push, if_neg (by omega)]
 ·cases h
theorem Ro {c : UInt8} (h : Zm c = true) : Lib.digitVal c = some (vQ c) := by
 have key : ∀ n : Fin 256, Zm (UInt8.ofNat n.val) = true → Lib.digitVal (UInt8.ofNat n.val) = some (vQ (UInt8.ofNat n.val)) := by decide +kernel
 have := key ⟨c.toNat, c.toNat_lt⟩
 simp only [UInt8.ofNat_toNat] at this
 exact this h
theorem tG : ∀ {l : zh} (a : Nat), (∀ c ∈ l, Zm c = true) → Lib.decFrom a l = some (a * 10 ^ l.length + zk l)
 | [], a, _ => by simp [Lib.decFrom, zk]
 | c :: r, a, h => by
  unfold Lib.decFrom
  rw [Ro (h c List.mem_cons_self)]
  simp only
  rw [tG _ fun x hx => h x (List.mem_cons_of_mem _ hx), Xx, List.length_cons, Nat.pow_succ, Nat.add_mul]
  congr 1
  rw [Nat.mul_assoc, Nat.mul_comm 10, Nat.add_assoc]
theorem sE {l : zh} (h : Zw l = true) : Lib.decNat l = some (zk l) := by
 obtain ⟨h1, h2, _⟩ := ZX.1 h
 unfold Lib.decNat
 rw [show l.isEmpty = false by cases l with | nil => cases h1 | cons c r => rfl]
 simp only [Bool.false_eq_true, if_false]
 rw [tG 0 h2, Nat.zero_mul, Nat.zero_add]
theorem mg {s : zh} (h : Zy s = true) : Lib.atoi s = some (zt s) := by
 rcases yR h with ⟨r, rfl, h1, _, h3⟩ | ⟨h1, h3⟩
 ·rw [h3]
  show (Lib.decNat r).map (fun (m : Nat) => -(m : Int)) = _
  rw [sE h1]; rfl
 ·rw [h3]
  obtain ⟨h4, h5, _⟩ := ZX.1 h1
  match s, h4, h5, h1 with
  | c :: r, _, h5, h1 =>
   have hc := Z6.1 (h5 c List.mem_cons_self)
   show (if c == 45 then _ else if c == 43 then _ else (Lib.decNat (c :: r)).map fun (m : Nat) => (m : Int)) = _
   rw [if_neg (by rw [beq_iff_eq]; intro e; subst e; exact absurd hc.1 (by decide)), if_neg (by rw [beq_iff_eq]; intro e; subst e; exact absurd hc.1 (by decide)), sE h1]; rfl
def Pz : List AV → Option (List zN × AV)
 | [.str s] => some ([.b (Zy s), .p (s.length ≤ 18)], .tup 2 (zT [.i (zt s), .v .nilIface]))
 | _ => none
theorem Je : zQ Tryz.prog [] 119 Pz := by
 intro xs ps r h hp
 unfold Pz at h
 split at h
 ·rename_i s
  cases h
  have q : Zy s = true := hp _ List.mem_cons_self
  have hl : s.length ≤ 18 := hp _ (List.mem_cons_of_mem _ List.mem_cons_self)
  refine ⟨enters_of Tryz.func119 (by kernel_rfl) rfl, fun w S vals hS hg hr => ?_⟩
  match vals, hr with
  | [v], ⟨hv, _⟩ =>
  obtain rfl := yU hv
  refine (Tryz.strconv_Atoi ⟨s.toArray⟩ (zt s) hl (mg q) w).mono ?_
  rintro e w' ⟨rfl, t, rfl⟩
  refine ⟨⟨⟨?_, ?_, ?_, by rw [Lib.bytesWorld_size]; omega, fun b hb => Lib.bytesWorld_at_old w 5 t b hb⟩, ?_⟩, _, rfl, ?_⟩
  ·rfl
  ·rfl
  ·rfl
  ·exact qU w 1
  ·exact .tup _ rfl fun i hi => by
    match i, hi with
    | 0, _ => exact .v _
    | 1, _ => exact .v _
 ·cases h
end Go.Te

namespace Go.Te
open Go Go.Sx Go.Proofs Go.Ar
set_option maxRecDepth 100000
set_option maxHeartbeats 4000000
theorem rC (a : zh) : Zy a = !(zR a == [] || (zR a).getD 0 0 == 48 && !(a == [48]) || !(zR a).all Zm) ∧ Xd a = (zR a).length := by
 match a with
 | [] => exact ⟨rfl, rfl⟩
 | c :: r =>
  by_cases hc : c = 45
  ·subst hc
   have h1 := xw (a := 45 :: r) (by simp) rfl
   have ho : zR (45 :: r) = r := rfl
   rw [ho, h1.2.1, h1.2.2.1]
   refine ⟨?_, by simp⟩
   show (Zw r && !(r == [48])) = _
   rw [show ((45 :: r : zh) == [48]) = false from rfl]
   unfold Zw
   match r with
   | [] => rfl
   | [d] =>
    cases hd : Zm d <;> cases h48 : d == 48 <;> simp_all
   | d :: e :: t =>
    simp only [List.length_cons, List.getD_cons_zero, Bool.not_false, Bool.and_true]
    rw [(zC _ _).2 (by omega), (zC _ _).2 (by omega), show ((d :: e :: t : zh) == []) = false from rfl, show ((d :: e :: t : zh) == [48]) = false by simp]
    cases (d :: e :: t).all Zm <;> cases d == 48 <;> rfl
  ·have hm : zd (c :: r) = false := beq_eq_false_iff_ne.2 hc
   have ho : zR (c :: r) = c :: r := by unfold zR; rw [hm]; rfl
   obtain ⟨h1, h2, _⟩ := Yl (a := c :: r) fun h => hc h.2
   rw [ho, h1, h2]
   refine ⟨?_, rfl⟩
   unfold Zw
   match r with
   | [] =>
    cases hd : Zm c <;> cases h48 : c == 48 <;> simp_all
    rfl
   | e :: t =>
    simp only [List.length_cons, List.getD_cons_zero]
    rw [(zC _ _).2 (by omega), (zC _ _).2 (by omega), show ((c :: e :: t : zh) == []) = false from rfl, show ((c :: e :: t : zh) == [48]) = false by simp]
    cases (c :: e :: t).all Zm <;> cases c == 48 <;> rfl
noncomputable def fY : Tb := (T0.plus 44 (xE fun s => .str (zR s))).plus 238 QQ
theorem OQ : zY Tryz.prog fY := zY.plus (zY.plus zr SJ) JL
def tw : List AV → Option (List zN × AV)
 | [.str a] => some ([.p (a.length ≤ 4294967280)], .i (Zt a))
 | _ => none
theorem OT (a : List UInt8) (hl : a.length ≤ 4294967280) :
 let q2 := (zR a == bA #[]); let q1 := (!zU false q2 || zU false q2); let q4 := (cI (UInt8.toNat (gD (zR a) 0 (0 : UInt8)))); let q3 := (q4 == (48 : Int)); let q7 := (ByteArray.data (ByteArray.mk #[(48 : UInt8)])); let q6 := (bif zR a == bA #[] then true else bif q4 == (48 : Int) then !a == Array.toList q7 else false); let q5 := (!zU false q6 || zU false q6); zB [AV.str a] → bF q1 (zZ (!zU false q2 || DB.db (iZ ≤ iZ ∧ iZ < (lZ (zR a))))
 (bF q1 (bF q1 (bF (!(zU false q2 && zU true q3) || zU false q2 && zU true q3) (bF q1 (bF (!zU false q2 || (!q4 == (48 : Int) || zU false q2 && zU true q3)) (bF (!!zR a == bA #[] || zU false q2) (bF q5 (zZ (!zU false q6 || bA #[(48 : UInt8), (49 : UInt8), (50 : UInt8), (51 : UInt8), (52 : UInt8), (53 : UInt8), (54 : UInt8), (55 : UInt8), (56 : UInt8), (57 : UInt8)] == VQ) ((zU false q6 = true → lN (zR a) ≤ nM) ∧ bF q5 (bF ((!!bif
 zR a == bA #[] then true else bif q4 == (48 : Int) then !a == Array.toList q7 else false) || zU false q6) (zZ (bif bif zR a == bA #[] then true else bif q4 == (48 : Int) then !a == Array.toList q7 else false then true else !Lib.trimS (zR a) VQ == bA #[]) (kI ∧ (11 : Int) = Zt a) (zZ (zn (300 : Int) (lZ (zR a))) (kI ∧ (4 : Int) = Zt a) (kI ∧ iZ = Zt a)))))
 False)))))))) False) := by
 delta bF bA nM cI kI lZ lN gD iZ
 dsimp only
 intro hb
 simp only [sS, dS]
 have h48 : ((((zR a).getD 0 0).toNat : Int) == 48) = ((zR a).getD 0 0 == 48) := yb ((zR a).getD 0 0) 48 (by decide)
 obtain ⟨hI, hL⟩ := rC a
 have hol := X5 a
 rw [show (([48, 49, 50, 51, 52, 53, 54, 55, 56, 57] : zh) == VQ) = true from rfl, OP, h48]
 have e1 : (!(zR a == [])) = true → 0 < (zR a).length := fun h => by
  match hs : zR a, h with
  | c :: r, _ => simp
 refine ⟨fun h => ⟨Int.le_refl _, by have := e1 h; omega⟩, ?_⟩
 refine xA (by cases zR a == [] <;> cases (zR a).getD 0 0 == 48 <;> rfl) ?_
 refine xA (by cases zR a == [] <;> cases (zR a).getD 0 0 == 48 <;> cases a == [48] <;> rfl) ?_
 refine ⟨fun _ => by omega, zu.2 ⟨fun c => ?_, fun c => ?_⟩⟩
 ·rw [c] at hI
  exact (Vr (by rw [hI]; decide)).symm
 ·rw [c] at hI
  rw [P3 hI, hL]
  refine ⟨fun h => ?_, fun h => ?_⟩
  ·rw [(zC _ _).2 (by omega)]; rfl
  ·rw [show Nat.blt 300 (zR a).length = false from Bool.eq_false_iff.2 fun e => by have := (zC _ _).1 e; omega]; rfl
theorem mt (a : List UInt8) (hl : a.length ≤ 4294967280) : zS Tryz.prog [] 204 [.str a] (.i (Zt a)) :=
 zV (T := fY) (an := .auto) mixed OQ (Eq.mp (by kernel_rfl) (OT a hl))
theorem lQ : zQ Tryz.prog [] 204 tw := by
 intro xs ps r h hp
 unfold tw at h
 split at h
 ·skip
  rename_i a
  cases h
  obtain ⟨q0, -⟩ := Zx hp
  exact weaken (ys := [.str a]) ⟨zX _, trivial⟩ (mt a q0)
 ·cases h
def Rv : List AV → Option (List zN × AV)
 | [.str a, .str b] => some ([.p (a.length ≤ 4294967280), .p (b.length ≤ 4294967280)], .i (zI a b))
 | _ => none
theorem Lp (a : List UInt8) (b : List UInt8) (hl : a.length ≤ 4294967280) (hm : b.length ≤ 4294967280) :
 zB [AV.str a, AV.str b] → lN a ≤ nM ∧ zZ (Zt a != iZ) (kI ∧ Zt a = zI a b) (lN b ≤ nM ∧ kI ∧ Zt b = zI a b) := by
 delta nM kI lN iZ
 intro hb
 simp only [sS, dS]
 exact ⟨hl, fun h => by unfold zI; rw [bne_iff_ne.2 h]; rfl, fun h => ⟨hm, by unfold zI; rw [h]; rfl⟩⟩
theorem KW (a : List UInt8) (b : List UInt8) (hl : a.length ≤ 4294967280) (hm : b.length ≤ 4294967280) : zS Tryz.prog [] 146 [.str a, .str b] (.i (zI a b)) :=
 zV (T := T0.plus 204 tw) (an := .auto) mixed (zY.plus zr lQ) (Eq.mp (by kernel_rfl) (Lp a b hl hm))
theorem Kk : zQ Tryz.prog [] 146 Rv := by
 intro xs ps r h hp
 unfold Rv at h
 split at h
 ·skip
  rename_i a b
  cases h
  obtain ⟨q0, q1, -⟩ := Zx hp
  exact weaken (ys := [.str a, .str b]) ⟨zX _, zX _, trivial⟩ (KW a b q0 q1)
 ·cases h
def tv : List AV → Option (List zN × AV)
 | [.str a, .str b, .v (.int .i64 m)] => some ([.p (Zy a = true), .p (Zy b = true), .p (m = 18)], .tup 3 (zT [.i (bif leB a.length 18 && leB b.length 18 then zt a else 0), .i (bif leB a.length 18 && leB b.length 18 then zt b else 0), .b (leB a.length 18 && leB b.length 18)]))
 | _ => none
theorem nN (a : List UInt8) (b : List UInt8) (m : Int) (ha : Zy a = true) (hb' : Zy b = true) (hm : m = 18) :
 zB [AV.str a, AV.str b, aI m] → bF (!zU false (zn m (lZ a)) || zU false (zn m (lZ a))) (bF (!zU false (zn m (lZ a)) || zU false (zn m (lZ a))) (bF (!zU false (zn m (lZ a)) || zU false (zn m (lZ a))) (bF (!!zn m (lZ a) || zU false (zn m (lZ a))) (zZ (bif zn m (lZ a) then true else zn m (lZ b)) (3 = lN [AV.junk, AV.junk, AV.junk] ∧ ((True ∧
 kI ∧ iZ = bif leB (lZ a) (18 : Int) && leB (lZ b) (18 : Int) then zt a else iZ) ∧ kI ∧ iZ = bif leB (lZ a) (18 : Int) && leB (lZ b) (18 : Int) then zt b else iZ) ∧ false = (leB (lZ a) (18 : Int) && leB (lZ b) (18 : Int))) (bF (Zy a) (lN a ≤ 18 ∧ bF (Zy b) (lN b ≤ 18 ∧ 3 = lN [AV.junk, AV.junk, AV.junk] ∧ ((True ∧ kI ∧ zt a = bif leB (lZ a) (18 : Int)
 && leB (lZ b) (18 : Int) then zt a else iZ) ∧ kI ∧ zt b = bif leB (lZ a) (18 : Int) && leB (lZ b) (18 : Int) then zt b else iZ) ∧ (bif true then true else false) = (leB (lZ a) (18 : Int) && leB (lZ b) (18 : Int))))))))) := by
 delta bF kI lZ lN iZ aI
 intro hb
 simp only [sS, dS]
 subst hm
 have e : (zn 18 (a.length : Int) || zn 18 (b.length : Int)) = !(leB (a.length : Int) 18 && leB (b.length : Int) 18) := by
  rw [Bool.eq_iff_iff, Bool.or_eq_true, zq, zq, Bool.not_eq_true', Bool.and_eq_false_iff, Bool.eq_false_iff, Bool.eq_false_iff, Ne, Ne, zF, zF]
  omega
 rw [e]
 refine zu.2 ⟨fun c => ?_, fun c => ?_⟩
 ·rw [Bool.not_eq_true'] at c
  rw [c]
  exact ⟨rfl, ⟨rfl, rfl⟩, rfl⟩
 ·rw [Bool.not_eq_false'] at c
  have c' := c
  rw [Bool.and_eq_true, zF, zF] at c'
  rw [c, ha, hb', Yo, Yo]
  exact ⟨by omega, by omega, rfl, ⟨rfl, rfl⟩, rfl⟩
theorem LV (a : List UInt8) (b : List UInt8) (m : Int) (ha : Zy a = true) (hb' : Zy b = true) (hm : m = 18) : zS Tryz.prog [] 147 [.str a, .str b, .i m] (.tup 3 (zT [.i (bif leB a.length 18 && leB b.length 18 then zt a else 0), .i (bif leB a.length 18 && leB b.length 18 then zt b else 0), .b (leB a.length 18 && leB b.length 18)])) :=
 zV (T := T0.plus 119 Pz) (an := .auto) mixed (zY.plus zr Je) (Eq.mp (by kernel_rfl) (nN a b m ha hb' hm))
theorem Ll : zQ Tryz.prog [] 147 tv := by
 intro xs ps r h hp
 unfold tv at h
 split at h
 ·skip
  rename_i a b m
  cases h
  obtain ⟨q0, q1, q2, -⟩ := Zx hp
  exact weaken (ys := [.str a, .str b, .i m]) ⟨zX _, zX _, zX _, trivial⟩ (LV a b m q0 q1 q2)
 ·cases h
def GL (l : zh) : AV → Bool
 | .str s => s == l
 | _ => false
theorem Kb {l : zh} (x : AV) (h : GL l x = true) : zc x (.str l) := by
 unfold GL at h
 split at h
 ·rw [eq_of_beq h]; exact zX _
 ·cases h
end Go.Te

namespace Go.Te
open Go Go.Sx Go.Proofs Go.Ar
set_option maxRecDepth 100000
set_option maxHeartbeats 4000000
theorem NV {a : zh} (h : Zy a = true) : Zw (zR a) = true ∧ (zt a).natAbs = zk (zR a) := by
 rcases yR h with ⟨r, rfl, h1, _, h3⟩ | ⟨h1, h3⟩
 ·exact ⟨h1, by rw [h3]; show _ = zk r; omega⟩
 ·have hm : zd a = false := by
   unfold zd
   rw [beq_eq_false_iff_ne]
   intro e
   have h0 := (ZX.1 h1).1
   have := (ZX.1 h1).2.1 _ (xh (s := a) (i := 0) h0)
   rw [e] at this
   cases this
  rw [← Sf hm]
  exact ⟨h1, by rw [h3]; omega⟩
structure YW where
 z : Nat
 u : Int
 L : List Int
noncomputable def G7 : Tb := ((T0.plus 210 (xE fun s => .tup 2 (zT [.str (zR s), .b (zd s)]))).plus 212 W4).body Tryz.prog [(211, .auto)]
theorem OJ : zY Tryz.prog G7 := zY.body mixed (zY.plus (zY.plus zr Q7) UU) _
def NA (a : zh) : yW :=
 .two .auto (.one (.loop YW (fun σ z => [(0, σ.tm 0), (1, σ.tm 1), (5, σ.tm 5), (6, .i z.z)]) (fun _ z => [(1, w8 z.L), (3, .box 3 1 fun _ => .i z.u)]) 0
  (fun _ z => Pd 9 (zR a) z.z z.L ∧ (z.z % 9 ≠ 0 → z.u = 10 ^ (z.z % 9)) ∧ 1 ≤ z.u ∧ z.u ≤ 1000000000) (fun _ z => (zR a).length - z.z) .auto))
def lP (a : zh) : yW :=
 .two .auto (.two .auto (.two .auto (.two .auto (.two (.two .auto (.one (.range (NA a) .auto .auto))) .auto))))
def SB : List AV → Option (List zN × AV)
 | [.str a] => some ([.p (Zy a = true), .p (a.length ≤ 100000000)], .agg 2 (zT [.b (zd a), Zp (zw 1000000000 (zt a).natAbs)]))
 | _ => none
theorem mZ (a : List UInt8) (hi : Zy a = true) (hl : a.length ≤ 100000000) :
 let q1 := ((lZ (zR a)) + (9 : Int) - iO); let q2 := (Int.tdiv q1 (9 : Int)); let q3 := (kI ∧ (lZ (zR a)) = (lZ (zR a))); let q4 := (180 = 180 ∧ 2 = 2 ∧ false = false ∧ Value.slice (xf Addr) 0 0 = Array.getD (Value.cells (Value.agg #[Value.bool false, Value.slice (xf Addr) 0 0])) (nat_lit 1) undef); let q9 := (Int.toNat q2); let q15 := (zw 1000000000 (Int.natAbs (zt a))); zB [AV.str a] → bF (dK ((lZ (zR a)) + (9 : Int))) (bF (dK q1) (bF (DB.db
 (YZ .i64 q2)) (bF (DB.db (iZ ≤ Int.tdiv q1 (9 : Int) ∧ Int.tdiv q1 (9 : Int) ≤ Int.tdiv q1 (9 : Int) ∧ (↑8 : Int) * Int.tdiv q1 (9 : Int) ≤ (140737488355328 : Int))) ((∃ (z : YW), ((Pd 9 (zR a) (YW.z z) (YW.L z) ∧ (YW.z z % 9 ≠ 0 → YW.u z = (10 : Int) ^ (YW.z z % 9)) ∧ iO ≤ YW.u z ∧ YW.u z ≤ iB) ∧ nat_lit 5 = 5 ∧ (nat_lit 4 = 4 ∧ 0 = 0) ∧ q3 ∧ kI ∧ iZ = (cI (YW.z z))) ∧ ((((q4 ∧ (3 : TypeId) = 3 ∧ 1 = 1 ∧ lN (YW.L z) = Int.toNat q2 ∧ ∀ (i j : Nat), i < Int.toNat q2 → j < 1 → zc (Zf (Value.int .i64 iZ)
 j) (aI (gD (YW.L z) i iZ))) ∧ 180 = 180 ∧ 2 = 2 ∧ zd a = zd a ∧ nat_lit 1 = 1 ∧ 0 = 0 ∧ Int.toNat q2 = Int.toNat q2) ∧ (3 : TypeId) = 3 ∧ 1 = 1 ∧ kI ∧ iO = YW.u z) ∧ 9 = 9 ∧ 1 = 1 ∧ zR a = zR a) ∧ lR) ∧ ∀ (z : YW), let q5 := ((lZ (zR a)) - iO - (cI (YW.z z))); let q6 := ((cI (UInt8.toNat (gD (zR a) (Int.toNat q5) (0 : UInt8)))) - (48 : Int)); let q7 := (dK (Int.tdiv (cI (YW.z z)) (9 : Int))); let q8 := (DB.db ((0
 : Int) ≤ Int.tdiv (cI (YW.z z)) (9 : Int) ∧ Int.tdiv (cI (YW.z z)) (9 : Int) < (cI q9))); let q11 := (0 + Int.toNat (Int.tdiv (cI (YW.z z)) (9 : Int))); let q10 := (gD (YW.L z) q11 iZ + q6 * iO); let q12 := (dK ((cI (YW.z z)) + iO)); let q13 := (gD (YW.L z) q11 iZ + q6 * YW.u z); let q14 := (AV.xl false 1 q9 fun i j => aI (gD (YW.L z) (0 + i) iZ)); let q16 := (zm (zv q14)); Pd 9 (zR a) (YW.z z) (YW.L z) ∧ (YW.z z % 9 ≠ 0 → YW.u z = (10 : Int) ^ (YW.z z % 9)) ∧ (1 :
 Int) ≤ YW.u z ∧ YW.u z ≤ iB → zZ (zn (cI (YW.z z)) (lZ (zR a))) (bF (dK ((lZ (zR a)) - iO)) (bF (dK q5) (bF (DB.db (iZ ≤ (lZ (zR a)) - iO - (cI (YW.z z)) ∧ (lZ (zR a)) - iO - (cI (YW.z z)) < (lZ (zR a)))) (bF (DB.db (YZ IntKind.u8 q6)) (bF (dK q6) (zZ (Int.tmod (cI (YW.z z)) (9 : Int) == iZ) (bF q7 (bF q8 (bF (dK (q6 * (1 :
 Int))) (bF (dK q10) (bF q8 (bF q12 (∃ (z' : YW), (((Pd 9 (zR a) (YW.z z') (YW.L z') ∧ (YW.z z' % 9 ≠ 0 → YW.u z' = (10 : Int) ^ (YW.z z' % 9)) ∧ iO ≤ YW.u z' ∧ YW.u z' ≤ iB) ∧ lN (zR a) - YW.z z' < lN (zR a) - YW.z z) ∧ nat_lit 5 = 5 ∧ (nat_lit 4 = 4 ∧ 0 = 0) ∧ q3 ∧ kI ∧ (cI (YW.z z)) + iO = (cI (YW.z z'))) ∧ ((((q4 ∧ 3 = 3 ∧ 1 = 1 ∧ lN (YW.L z') = lN (YW.L z) ∧ ∀ (i j : Nat), i < lN (YW.L z) → j < 1 → zc (if i = 0 + Int.toNat (Int.tdiv (↑(YW.z z)
 : Int) (9 : Int)) ∧ 0 ≤ j ∧ j < 1 then aI q10 else aI (gD (YW.L z) i iZ)) (aI (gD (YW.L z') i iZ))) ∧ 180 = 180 ∧ 2 = 2 ∧ zd a = zd a ∧ nat_lit 1 = 1 ∧ 0 = 0 ∧ Int.toNat q2 = Int.toNat q2) ∧ 3 = 3 ∧ 1 = 1 ∧ kI ∧ iO * (10 : Int) = YW.u z') ∧ 9 = 9 ∧ 1 = 1 ∧ zR a = zR a) ∧ lR))))))) (bF q7 (bF q8 (bF (dK (q6 * YW.u z)) (bF (dK q13) (zZ q8
 (bF (dK (YW.u z * (10 : Int))) (bF q12 (∃ (z' : YW), (((Pd 9 (zR a) (YW.z z') (YW.L z') ∧ (YW.z z' % 9 ≠ 0 → YW.u z' = (10 : Int) ^ (YW.z z' % 9)) ∧ iO ≤ YW.u z' ∧ YW.u z' ≤ iB) ∧ lN (zR a) - YW.z z' < lN (zR a) - YW.z z) ∧ nat_lit 5 = 5 ∧ (nat_lit 4 = 4 ∧ 0 = 0) ∧ q3 ∧ kI ∧ (cI (YW.z z)) + iO = (cI (YW.z z'))) ∧ ((((q4 ∧ 3 = 3 ∧ 1 = 1 ∧ lN (YW.L z') = lN (YW.L z) ∧ ∀ (i j : Nat), i < lN (YW.L z) → j < 1 → zc (if i = 0 + Int.toNat (Int.tdiv (↑(YW.z z)
 : Int) (9 : Int)) ∧ 0 ≤ j ∧ j < 1 then aI q13 else aI (gD (YW.L z) i iZ)) (aI (gD (YW.L z') i iZ))) ∧ 180 = 180 ∧ 2 = 2 ∧ zd a = zd a ∧ nat_lit 1 = 1 ∧ 0 = 0 ∧ Int.toNat q2 = Int.toNat q2) ∧ 3 = 3 ∧ 1 = 1 ∧ kI ∧ YW.u z * (10 : Int) = YW.u z') ∧ 9 = 9 ∧ 1 = 1 ∧ zR a = zR a) ∧ lR))) False))))))))))) (bF (za Int q14) (2 = 2 ∧ zd a = zd a ∧ (false = true →
 false = true) ∧ 1 = 1 ∧ lN q15 = lN q16 ∧ ∀ (i j : Nat), i < lN q16 → j < 1 → kI ∧ gD q16 i zp.dflt = gD q15 i zp.dflt)))))) := by
 delta bF dK lR cI kI lZ lN gD iZ iO iB aI
 dsimp only
 intro hb
 have e0 : (zp.dflt : Int) = 0 := rfl
 simp only [↓ZK, ↓ZT, row_one]
 simp only [sS, dS, e0]
 have hol := X5 a
 have hds : Zw (zR a) = true ∧ (zt a).natAbs = zk (zR a) := NV hi
 have hall := (ZX.1 hds.1).2.1
 have hpos := (ZX.1 hds.1).1
 rw [hds.2]
 generalize zR a = s at *
 have ed : ((s.length : Int) + 9 - 1).tdiv 9 = ((s.length + 9 - 1) / 9 : Nat) := by rw [Int.tdiv_eq_ediv_of_nonneg (by omega)]; omega
 have ez : ∀ z : Nat, (z : Int).tdiv 9 = (z / 9 : Nat) := fun z => by rw [Int.tdiv_eq_ediv_of_nonneg (by omega)]; omega
 have em : ∀ z : Nat, (z : Int).tmod 9 = (z % 9 : Nat) := fun z => by rw [Int.tmod_eq_emod_of_nonneg (by omega)]; omega
 have en : ∀ z : Nat, ((s.length : Int) - 1 - (z : Int)).toNat = s.length - 1 - z := fun z => by omega
 simp only [ed, ez, em, en, Int.toNat_natCast]
 have hq : (s.length + 9 - 1) / 9 ≤ s.length := by omega
 refine ⟨⟨by omega, by omega⟩, ⟨by omega, by omega⟩, ⟨by omega, by omega⟩, ⟨by omega, Int.le_refl _, by omega⟩, ⟨⟨0, 1, List.replicate ((s.length + 9 - 1) / 9) 0⟩, ⟨⟨Pd.start (by omega) s, fun h => absurd rfl h, by simp only; omega, by simp only; omega⟩, rfl⟩, ⟨rfl, by simp, fun i j _ hj => wB _ i j hj⟩, rfl⟩, fun z ⟨z1, z2, z3, z4⟩ => ⟨fun hz => ?_, fun hz => ?_⟩⟩
 ·have hc := hall _ (xh (s := s) (i := s.length - 1 - z.z) (by omega))
  have hdi := Z6.1 hc
  obtain ⟨l1, hs⟩ := z1.step (by omega) hall (by omega)
  have l2 := z1.len
  have g1 := hs.in_.get (by omega) (z.z / 9)
  rw [Yv _ _ _ _ l1, if_pos rfl] at g1
  have g0 := z1.in_.get (by omega) (z.z / 9)
  have dv : (((s.getD (s.length - 1 - z.z) 0).toNat : Int) - 48) = (vQ (s.getD (s.length - 1 - z.z) 0) : Int) := by unfold vQ; omega
  have d9 := tc hc
  rw [dv]
  generalize vQ (s.getD (s.length - 1 - z.z) 0) = d at *
  have g2 : z.L.getD (z.z / 9) 0 + (d : Int) * 10 ^ (z.z % 9) < 1000000000 := g1.2
  refine ⟨⟨by omega, by omega⟩, ⟨by omega, by omega⟩, ⟨by omega, by omega⟩, ⟨by omega, by omega⟩, ⟨by omega, by omega⟩, fun h0 => ?_, fun h0 => ?_⟩
  ·have h0' : z.z % 9 = 0 := by omega
   rw [h0', Int.pow_zero, Int.mul_one] at g2 hs
   simp only [Int.mul_one]
   refine ⟨⟨by omega, by omega⟩, ⟨by omega, by omega⟩, ⟨by omega, by omega⟩, ⟨by omega, by omega⟩, ⟨by omega, by omega⟩, ⟨by omega, by omega⟩, ⟨z.z + 1, 10, _⟩, ⟨⟨⟨hs, fun _ => ?_, by simp only; omega, by simp only; omega⟩, by simp only; omega⟩, by simp only; omega⟩, ⟨rfl, by simp, fun i j _ => uG _ _ _ l1 i j⟩, rfl⟩
   simp only
   rw [show (z.z + 1) % 9 = 1 by omega]; rfl
  ·have h0' : z.z % 9 ≠ 0 := by omega
   have hu := z2 h0'
   rw [← hu] at g2 hs
   have hm := Nat.mod_lt z.z (show 0 < 9 by omega)
   have d0 : 0 ≤ (d : Int) * z.u := Int.mul_nonneg (by omega) (by omega)
   have hu9 : z.u ≤ 100000000 := by
    rw [hu]
    have h8 : 10 ^ (z.z % 9) ≤ 100000000 := Nat.le_trans (Nat.pow_le_pow_right (by omega) (show z.z % 9 ≤ 8 by omega)) (by decide)
    have h9 := Int.ofNat_le.2 h8
    rw [Int.natCast_pow] at h9
    exact h9
   refine ⟨⟨by omega, by omega⟩, ⟨by omega, by omega⟩, ⟨by omega, by omega⟩, ⟨by omega, by omega⟩, ⟨by omega, by omega⟩, ⟨by omega, by omega⟩, ⟨by omega, by omega⟩, ⟨z.z + 1, z.u * 10, _⟩, ⟨⟨⟨hs, fun h => ?_, by simp only; omega, by simp only; omega⟩, by simp only; omega⟩, by simp only; omega⟩, ⟨rfl, by simp, fun i j _ => uG _ _ _ l1 i j⟩, rfl⟩
   simp only at h ⊢
   rw [hu, show (z.z + 1) % 9 = z.z % 9 + 1 by omega, Int.pow_succ]
 ·have ez2 : z.z = s.length := by have := z1.le; omega
  have he := (ez2 ▸ z1 : Pd 9 s s.length z.L).end_ (by omega)
  have l2 := z1.len
  rw [← l2]
  simp only [sS, dS, e0]
  rw [show zm z.L = zw 1000000000 (zk s) from he]
  exact ⟨fun h => h, rfl, fun _ _ _ _ => rfl⟩
theorem Kt (a : List UInt8) (hi : Zy a = true) (hl : a.length ≤ 100000000) : zS Tryz.prog [] 150 [.str a] (.agg 2 (zT [.b (zd a), Zp (zw 1000000000 (zt a).natAbs)])) :=
 zV (T := G7) (an := lP a) mixed OJ (Eq.mp (by kernel_rfl) (mZ a hi hl))
theorem KP : zQ Tryz.prog [] 150 SB := by
 intro xs ps r h hp
 unfold SB at h
 split at h
 ·skip
  rename_i a
  cases h
  obtain ⟨q0, q1, -⟩ := Zx hp
  exact weaken (ys := [.str a]) ⟨zX _, trivial⟩ (Kt a q0 q1)
 ·cases h
end Go.Te

namespace Go.Proofs
open Go.Shelf
def Tryz.lays169_ren : Go.Shelf.Ren := ⟨fun | 169 => 73 | n => n, fun | 70 => 105 | 9 => 9 | 0 => 0 | 72 => 108 | 37 => 106 | 127 => 161 | 3 => 3 | 5 => 5 | n => n, fun | n => n⟩
theorem Tryz.lays169 : Go.Proofs.Lays.n169 Tryz.prog Tryz.lays169_ren := {
 mixed := by kernel_rfl
 f169 := Tryz.func73.trans (congrArg some (by kernel_rfl))
 t0 := Tryz.underlying0
 a0 := Tryz.isAgg0
 z0 := Tryz.sizeOf0
 v0 := Tryz.zeroValue0
 t3 := Tryz.underlying3
 a3 := Tryz.isAgg3
 z3 := Tryz.sizeOf3
 v3 := Tryz.zeroValue3
 t9 := Tryz.underlying9
 a9 := Tryz.isAgg9
 z9 := Tryz.sizeOf9
 v9 := Tryz.zeroValue9
 t37 := Tryz.underlying106
 a37 := Tryz.isAgg106
 z37 := Tryz.sizeOf106
 v37 := Tryz.zeroValue106
 t70 := Tryz.underlying105
 a70 := Tryz.isAgg105
 z70 := Tryz.sizeOf105
 v70 := Tryz.zeroValue105
 t72 := Tryz.underlying108
 a72 := Tryz.isAgg108
 z72 := Tryz.sizeOf108
 v72 := Tryz.zeroValue108
 t127 := Tryz.underlying161
 a127 := Tryz.isAgg161
 z127 := Tryz.sizeOf161
 v127 := Tryz.zeroValue161 }
theorem Tryz.Builder_Extra_169 : Builder.Extra Tryz.prog Tryz.lays169_ren := {
 sizeBuilder := by kernel_rfl
 liesBuilder := by kernel_rfl
 t5 := Tryz.underlying5
 a5 := Tryz.isAgg5
 z5 := Tryz.sizeOf5
 v5 := Tryz.zeroValue5
 infoByte := by kernel_rfl
 cellsByte := by kernel_rfl
 sizeByte := by kernel_rfl
 neB5 := by decide }
end Go.Proofs

namespace Go.Te
open Go Go.Sx Go.Proofs Go.RowKit Go.Shelf
theorem j0 : (Tryz.prog.info? 108).map (·.size) = some 2 := by kernel_rfl
theorem HE : liesAt Tryz.prog Tryz.prog.depth 108 (2 / Tryz.prog.cellsOf 108) 0 108 1 = true := by kernel_rfl
set_option maxHeartbeats 1000000 in
set_option maxRecDepth 100000 in
theorem kP (b : Nat) (w : World) (h0 : w.cell? ⟨b, 0, none⟩ = some (.pointer (some ⟨b, 0, none⟩))) :
  Calls Tryz.prog 120 #[.pointer (some ⟨b, 0, none⟩)] w fun e w' => e = .returned (.tuple #[]) ∧ w' = w := by
 obtain ⟨j, hj, _⟩ := Option.map_eq_some_iff.1 j0
 go_enter Tryz.func120, Tryz.ntmps120
 go_wp2
 rw [Lib.run_neq_ptr_same w _ Tryz.underlying105 hj]
 go_wp2
 go_end0
 simp
set_option maxHeartbeats 1000000 in
set_option maxRecDepth 100000 in
theorem lm (b : Nat) (w : World) (h0 : w.cell? ⟨b, 0, none⟩ = some (.pointer none)) (hsh : w.shape? b = some (108, 2)) (hfz : w.frozen? ⟨b, 0, none⟩ = false) :
  Calls Tryz.prog 120 #[.pointer (some ⟨b, 0, none⟩)] w fun e w' => e = .returned (.tuple #[]) ∧ w' = w.setCell ⟨b, 0, none⟩ (.pointer (some ⟨b, 0, none⟩)) := by
 obtain ⟨j, hj, hjs⟩ := Option.map_eq_some_iff.1 j0
 go_enter Tryz.func120, Tryz.ntmps120
 go_wp2
 rw [Lib.run_to_unsafe w ⟨b, 0, none⟩ Tryz.underlying105 Tryz.underlying206 hj (by rw [hjs]; decide) hsh (Nat.zero_lt_succ 1)]
 simp only [Result.andThen]
 rw [Oper.upon_value]
 go_wp2
 rw [run_callFunc_extern Tryz.func179 (by kernel_rfl) (by kernel_rfl) (by kernel_rfl) (e := Extern.AbiNoEscape.same) (by kernel_rfl)]
 rw [Lib.run_noEscape]
 simp only [Result.andThen]
 rw [Oper.upon_value]
 go_wp2
 rw [Lib.run_from_unsafe w ⟨b, 0, none⟩ Tryz.underlying206 Tryz.underlying105 hj hsh HE]
 simp only [Result.andThen]
 rw [Oper.upon_value]
 go_wp2
 go_end0
 simp
section
variable {P : Program} {ρ : Ren}
set_option maxHeartbeats 1000000 in
set_option maxRecDepth 100000 in
theorem Kr (L : Lays.n169 P ρ) (X : Builder.Extra P ρ) (b g cap : Nat) (p : Value) (cur : Array Value) (l : List UInt8) (w : World) (h0 : l ≠ []) (hbk : w.heap[b]? = some (.cells #[p, .slice (some ⟨g, 0, none⟩) l.length cap] (ρ.t 72) (0, 0)))
  (hg : w.heap[g]? = some (.cells cur (ρ.t 5) (0, 0))) (hnc : l.length ≤ cap) (hcm : cap ≤ maxLen) (hcs : cur.size = cap) (hcell : ∀ (j : Nat) (x : UInt8), l[j]? = some x → cur[j]? = some (Value.int .u8 x.toNat)) :
  Calls P (ρ.f 169) #[.pointer (some ⟨b, 0, none⟩)] w fun e w' => e = .returned (.string ⟨l.toArray⟩) ∧ w' = w.drew.freeze ⟨g, 0, none⟩ l.length := by
 have hl0 : l.length ≠ 0 := by simpa using h0
 have c1 : w.drew.cell? ⟨b, 1, none⟩ = some (.slice (some ⟨g, 0, none⟩) l.length cap) := by
  have : w.drew.heap[b]? = some (.cells #[p, .slice (some ⟨g, 0, none⟩) l.length cap] (ρ.t 72) (0, 0)) := hbk
  rw [Lib.cell_of_heap this]; rfl
 have hSD : (Builtin.unsafeSliceData_ #[(ρ.t 37)] (ρ.t 127) #[.slice (some ⟨g, 0, none⟩) l.length cap]).run P w.drew = .ok (.pointer (some ⟨g, 0, none⟩)) w.drew :=
  Lib.run_unsafeSliceData_row _ _ _ _ _ _ (by omega)
 have hUS : (Builtin.unsafeString_ #[(ρ.t 127), (ρ.t 3)] (ρ.t 9) #[.pointer (some ⟨g, 0, none⟩), .int .i64 l.length]).run P w.drew = .ok (.string ⟨l.toArray⟩) (w.drew.freeze ⟨g, 0, none⟩ l.length) := by
  refine Lib.run_unsafeString_row w.drew (ρ.t 127) (ρ.t 3) (ρ.t 9) (ρ.t 5) L.t127 X.cellsByte g cur.size (by have hg' : w.drew.heap[g]? = some (.cells cur (ρ.t 5) (0, 0)) := hg; simp [World.shape?, hg']) l h0 (by omega) (by unfold maxLen at hcm; omega) ?_
  intro j x hx
  have hg' : w.drew.heap[g]? = some (.cells cur (ρ.t 5) (0, 0)) := hg
  rw [add_lit, Nat.zero_add, Lib.cell_of_heap hg']
  simp_all
 have mixed := L.mixed
 have t72 := L.t72; have a72 := L.a72; have z72 := L.z72; have v72 := L.v72; have u72 := run_underlying L.t72
 have t70 := L.t70; have a70 := L.a70; have z70 := L.z70; have v70 := L.v70; have u70 := run_underlying L.t70
 have t37 := L.t37; have a37 := L.a37; have z37 := L.z37; have v37 := L.v37; have u37 := run_underlying L.t37
 have t127 := L.t127; have a127 := L.a127; have z127 := L.z127; have v127 := L.v127; have u127 := run_underlying L.t127
 have t3 := L.t3; have a3 := L.a3; have z3 := L.z3; have v3 := L.v3; have u3 := run_underlying L.t3
 have t9 := L.t9; have a9 := L.a9; have z9 := L.z9; have v9 := L.v9; have u9 := run_underlying L.t9
 have t5 := X.t5; have a5 := X.a5; have z5 := X.z5; have v5 := X.v5; have u5 := run_underlying X.t5
 go_enter L.f169, Body.n169_ntmps ρ
 go_wp2
 go_region_o
 all_goals (go_wp2; go_ret; exact ⟨rfl, rfl⟩)
set_option maxHeartbeats 2000000 in
set_option maxRecDepth 100000 in
theorem jm (L : Lays.n169 P ρ) (X : Builder.Extra P ρ) (b : Nat) (p : Value) (w : World) (hbk : w.heap[b]? = some (.cells #[p, .slice none 0 0] (ρ.t 72) (0, 0))) :
  Calls P (ρ.f 169) #[.pointer (some ⟨b, 0, none⟩)] w fun e w' => e = .returned (.string ⟨#[]⟩) ∧ w' = w.drew := by
 have hUS := Any.unsafeString_none L X
 have c1 : w.drew.cell? ⟨b, 1, none⟩ = some (.slice none 0 0) := by
  have : w.drew.heap[b]? = some (.cells #[p, .slice none 0 0] (ρ.t 72) (0, 0)) := hbk
  rw [Lib.cell_of_heap this]; rfl
 have hSD : (Builtin.unsafeSliceData_ #[(ρ.t 37)] (ρ.t 127) #[.slice none 0 0]).run P w.drew = .ok (.pointer none) w.drew := rfl
 have mixed := L.mixed
 have t72 := L.t72; have a72 := L.a72; have z72 := L.z72; have v72 := L.v72; have u72 := run_underlying L.t72
 have t70 := L.t70; have a70 := L.a70; have z70 := L.z70; have v70 := L.v70; have u70 := run_underlying L.t70
 have t37 := L.t37; have a37 := L.a37; have z37 := L.z37; have v37 := L.v37; have u37 := run_underlying L.t37
 have t127 := L.t127; have a127 := L.a127; have z127 := L.z127; have v127 := L.v127; have u127 := run_underlying L.t127
 have t3 := L.t3; have a3 := L.a3; have z3 := L.z3; have v3 := L.v3; have u3 := run_underlying L.t3
 have t9 := L.t9; have a9 := L.a9; have z9 := L.z9; have v9 := L.v9; have u9 := run_underlying L.t9
 have t5 := X.t5; have a5 := X.a5; have z5 := X.z5; have v5 := X.v5; have u5 := run_underlying X.t5
 go_enter L.f169, Body.n169_ntmps ρ
 go_wp2
 go_region_o
 all_goals (go_wp2; go_ret; exact ⟨rfl, rfl⟩)
end
section
variable {E : Env} {nb : Nat} {bl : Nat → OB} {S : Nat → Prop} {ρ : Nat → Go.Sx.Own} {w : World}
theorem Mem.off (h : Mem E nb bl S ρ w) {w' : World} (g : Nat) (hw : ∀ b, b ≠ g → w'.heap[b]? = w.heap[b]?) (hsz : w'.heap.size = w.heap.size) (e1 : w'.os = w.os) (e2 : w'.tape = w.tape) (e3 : w'.output = w.output) (e5 : dn w ≤ dn w')
  (hS : ¬ S g) (hρ : ∀ k, ¬ (ρ k).has g) (hg3 : E.w0.heap.size ≤ g ∨ E.X g) : Mem E nb bl S ρ w' ∧ ∀ b, S b → S b ∧ w'.heap[b]? = w.heap[b]? := by
 have hS' : ∀ b, S b → S b ∧ w'.heap[b]? = w.heap[b]? := fun b hb => ⟨hb, hw b fun e => hS (e ▸ hb)⟩
 refine ⟨⟨?_, ?_, h.sup, h.sub, ?_, h.hi, ?_, h.own, h.dis, h.b0, h.nbz, h.ole⟩, hS'⟩
 ·refine h.fr.trans (fun b hb hx => hw b fun e => ?_) e1 e2 e3 (by omega) e5
  subst e
  rcases hg3 with ho | ho
  ·omega
  ·exact hx ho
 ·intro b hb; rw [hsz]; exact h.sb b hb
 ·intro b o hbo
  obtain ⟨h1, h2⟩ := h.glob b o hbo
  exact ⟨h1, (hS' b h1).2.trans h2⟩
 ·intro k hk
  exact (h.ok k hk).mono hS' (z7.refl _) fun g' hg' => hw g' fun e => hρ k (e ▸ hg')
theorem Mem.drewn (h : Mem E nb bl S ρ w) {w' : World} (hh : w'.heap = w.heap) (e1 : w'.os = w.os) (e2 : w'.tape = w.tape) (e3 : w'.output = w.output) (e5 : dn w ≤ dn w') :
  Mem E nb bl S ρ w' ∧ ∀ b, S b → S b ∧ w'.heap[b]? = w.heap[b]? := by
 have hS' : ∀ b, S b → S b ∧ w'.heap[b]? = w.heap[b]? := fun b hb => ⟨hb, by rw [hh]⟩
 refine ⟨⟨?_, ?_, h.sup, h.sub, ?_, h.hi, ?_, h.own, h.dis, h.b0, h.nbz, h.ole⟩, hS'⟩
 ·exact h.fr.trans (fun b hb hx => by rw [hh]) e1 e2 e3 (by rw [hh]; exact Nat.le_refl _) e5
 ·intro b hb; rw [hh]; exact h.sb b hb
 ·intro b o hbo
  obtain ⟨h1, h2⟩ := h.glob b o hbo
  exact ⟨h1, (hS' b h1).2.trans h2⟩
 ·intro k hk
  exact (h.ok k hk).mono hS' (z7.refl _) fun g' hg' => by rw [hh]
end
def gB (nb : Nat) (bl : Nat → OB) (xs : List AV) (k : Nat → (Nat → OB) → AV → Prop) : Prop :=
 match xs with
 | [.np b 0] =>
  match bl b with
  | .box t n cs =>
   zZ (Nat.beq t 108 && Nat.beq n 2 && Nat.blt b nb)
    (match cs 0 with
    | .v (.pointer none) => k nb (upd bl b (.box 108 2 (zT [.np b 0, cs 1]))) (.tup 0 fun _ => .junk)
    | .np b' 0 => zZ (Nat.beq b' b) (k nb bl (.tup 0 fun _ => .junk)) False
    | _ => Z3 b) False
  | _ => Z3 b
 | _ => Z3 xs
theorem J8 (G : List (Nat × Obj)) : Sl Tryz.prog G 120 gB := by
 refine ⟨enters_of Tryz.func120 (by kernel_rfl) rfl, ?_, ?_⟩
 ·intro nb bl xs k k' hk h
  unfold gB at h ⊢
  split at h
  ·split at h
   ·rw [zu] at h ⊢
    refine ⟨fun hc => ?_, fun hc => (h.2 hc).elim⟩
    replace h := h.1 hc
    split at h
    ·simp_all
    ·rw [zu] at h ⊢
     simp_all
    ·exact h
   ·exact h
  ·exact h
 ·intro E nb bl S ρ w xs vs k _ hM hx h
  unfold gB at h
  split at h
  ·rename_i b
   split at h
   ·rename_i t n cs hB
    rw [zu] at h
    cases hc : Nat.beq t 108 && Nat.beq n 2 && Nat.blt b nb with
    | false => simp_all
    | true =>
    replace h := h.1 hc
    simp only [Bool.and_eq_true] at hc
    obtain rfl := Nat.eq_of_beq_eq_true hc.1.1
    obtain rfl := Nat.eq_of_beq_eq_true hc.1.2
    have hlt : b < nb := Nat.le_of_ble_eq_true hc.2
    match vs, hx with
    | [v], ⟨hv, _⟩ =>
    cases hv with
    | dnp hd hsh => exact (hM.box (by rw [hB]; rfl) hd).elim
    | np g hk =>
    have hbk := (hM.at b).resolve_left (by rw [hk]; simp)
    rw [hB, hk] at hbk
    obtain ⟨⟨l⟩, c1, c2, c3⟩ := hbk
    match l, c2 with
    | [x, y], _ =>
    have r0 := (c3 0 (by omega)).1
    have e0 : w.cell? ⟨g, 0, none⟩ = some x := by rw [Lib.cell_of_heap c1]; rfl
    have hr : Zz w S ρ (.np b 0) (.pointer (some ⟨g, 0, none⟩)) := .np g hk
    split at h
    ·rename_i hcs
     rw [hcs] at r0
     have ex : x = .pointer none := by
      have : (⟨[x, y]⟩ : Array Value).getD 0 undef = x := rfl
      rw [this] at r0
      cases r0; rfl
     subst ex
     refine (lm g w e0 (by simp [World.shape?, c1]) (by simp [World.frozen?, c1])).mono ?_
     rintro e w' ⟨rfl, rfl⟩
     have hh : (w.setCell ⟨g, 0, none⟩ (.pointer (some ⟨g, 0, none⟩))).heap[g]? = some (.cells #[.pointer (some ⟨g, 0, none⟩), y] 108 (0, 0)) := by
      simp [World.setCell, Array.getElem?_modify, c1]
     have hw : ∀ b, b ≠ g → (w.setCell ⟨g, 0, none⟩ (.pointer (some ⟨g, 0, none⟩))).heap[b]? = w.heap[b]? := fun b hb => by
      simp [World.setCell, Array.getElem?_modify, Ne.symm hb]
     have hS : ∀ b, S b → S b ∧ (w.setCell ⟨g, 0, none⟩ (.pointer (some ⟨g, 0, none⟩))).heap[b]? = w.heap[b]? := fun b' hb' => ⟨hb', hw b' fun e' => (hM.own b g (by rw [hk]; rfl)).1 (e' ▸ hb')⟩
     obtain ⟨m1, m2⟩ := hM.write (k := b) (g := g) (B := .box 108 2 (zT [.np b 0, cs 1])) hlt (by rw [hk]; rfl) hw (by simp [World.setCell]) rfl rfl rfl (Nat.le_refl _) (by
      rw [hk]
      refine ⟨_, hh, rfl, fun i hi => ?_⟩
      match i, hi with
      | 0, _ => exact ⟨.np g hk, rfl⟩
      | 1, _ => exact ⟨((c3 1 (by omega)).1).mono hS (z7.refl _), (c3 1 (by omega)).2⟩)
     exact ⟨_, _, S, ρ, _, _, rfl, h, m1, m2, z7.refl _, .tup #[] rfl fun i hi => absurd hi (Nat.not_lt_zero _)⟩
    ·rename_i b' hcs
     rw [zu] at h
     cases hb : Nat.beq b' b with
     | false => simp_all
     | true =>
     replace h := h.1 hb
     obtain rfl := Nat.eq_of_beq_eq_true hb
     rw [hcs] at r0
     have ex : x = .pointer (some ⟨g, 0, none⟩) := by
      have : (⟨[x, y]⟩ : Array Value).getD 0 undef = x := rfl
      rw [this] at r0
      cases r0 with
      | np g' hk' => simp_all
      | dnp hd => simp_all
     subst ex
     refine (kP g w e0).mono ?_
     rintro e w' ⟨rfl, rfl⟩
     exact ⟨_, _, S, ρ, _, _, rfl, h, hM, fun b hb => ⟨hb, rfl⟩, z7.refl _, .tup #[] rfl fun i hi => absurd hi (Nat.not_lt_zero _)⟩
    ·exact h.elim
   ·exact h.elim
  ·exact h.elim
def KF (nb : Nat) (bl : Nat → OB) (xs : List AV) (k : Nat → (Nat → OB) → AV → Prop) : Prop :=
 match xs with
 | [.np b 0] =>
  match bl b with
  | .box t n cs =>
   zZ (Nat.beq t 108 && Nat.beq n 2)
    (match cs 1 with
    | .v (.slice none 0 0) => k nb bl (.str [])
    | .ns j 0 len =>
     match bl j with
     | .arr e sz _ els => zZ (Nat.beq e 5 && Nat.beq sz 1 && Nat.blt j nb) (0 < len ∧ ∃ l : List UInt8, l.length = len ∧ (∀ i, i < len → els i 0 = .v (.int .u8 (l.getD i 0).toNat)) ∧ k nb (upd bl j .dead) (.str l)) False
     | _ => Z3 b
    | _ => Z3 b) False
  | _ => Z3 b
 | _ => Z3 xs
theorem Ki (G : List (Nat × Obj)) : Sl Tryz.prog G 73 KF := by
 refine ⟨enters_of Tryz.func73 (by kernel_rfl) rfl, ?_, ?_⟩
 ·intro nb bl xs k k' hk h
  unfold KF at h ⊢
  split at h
  ·split at h
   ·rw [zu] at h ⊢
    refine ⟨fun hc => ?_, fun hc => (h.2 hc).elim⟩
    replace h := h.1 hc
    split at h
    ·exact hk _ _ _ h
    ·split at h
     ·rw [zu] at h ⊢
      refine ⟨fun hb => ?_, fun hb => (h.2 hb).elim⟩
      obtain ⟨h1, l, h2, h3, h4⟩ := h.1 hb
      exact ⟨h1, l, h2, h3, hk _ _ _ h4⟩
     ·exact h
    ·exact h
   ·exact h
  ·exact h
 ·intro E nb bl S ρ w xs vs k _ hM hx h
  unfold KF at h
  split at h
  ·rename_i b
   split at h
   ·rename_i t n cs hB
    rw [zu] at h
    cases hc : Nat.beq t 108 && Nat.beq n 2 with
    | false => exact (h.2 hc).elim
    | true =>
    replace h := h.1 hc
    simp only [Bool.and_eq_true] at hc
    obtain rfl := Nat.eq_of_beq_eq_true hc.1
    obtain rfl := Nat.eq_of_beq_eq_true hc.2
    match vs, hx with
    | [v], ⟨hv, _⟩ =>
    cases hv with
    | dnp hd hsh => exact (hM.box (by rw [hB]; rfl) hd).elim
    | np g hk =>
    have hbk := (hM.at b).resolve_left (by rw [hk]; simp)
    rw [hB, hk] at hbk
    obtain ⟨⟨l⟩, c1, c2, c3⟩ := hbk
    match l, c2 with
    | [x, y], _ =>
    have r1 := (c3 1 (by omega)).1
    have ey : (⟨[x, y]⟩ : Array Value).getD 1 undef = y := rfl
    rw [ey] at r1
    split at h
    ·rename_i hcs
     rw [hcs] at r1
     obtain rfl := Zg r1
     refine (jm Tryz.lays169 Tryz.Builder_Extra_169 g x w c1).mono ?_
     rintro e w' ⟨rfl, rfl⟩
     obtain ⟨m1, m2⟩ := Mem.drewn hM (w' := w.drew) rfl rfl rfl rfl (qU w 1)
     exact ⟨_, _, S, ρ, _, _, rfl, h, m1, m2, z7.refl _, .str []⟩
    ·rename_i j len hcs
     split at h
     ·rename_i el sz L els hA
      rw [zu] at h
      cases hb : Nat.beq el 5 && Nat.beq sz 1 && Nat.blt j nb with
      | false => exact (h.2 hb).elim
      | true =>
      obtain ⟨h1, l, h2, h3, h4⟩ := h.1 hb
      simp only [Bool.and_eq_true] at hb
      obtain rfl := Nat.eq_of_beq_eq_true hb.1.1
      obtain rfl := Nat.eq_of_beq_eq_true hb.1.2
      have hj : j < nb := Nat.le_of_ble_eq_true hb.2
      rw [hcs] at r1
      cases r1 with
      | dns hd hsh => exact (hM.arr (by rw [hA]; rfl) hd).elim
      | ns0 => exact absurd h1 (Nat.lt_irrefl _)
      | nsn => exact absurd h1 (Nat.lt_irrefl _)
      | ns g' base cap sz' L' hk' hl hcap =>
       subst h2
       have hb0 := hM.b0 _ _ _ _ _ _ hk'
       subst hb0
       have hbj := (hM.at j).resolve_left (by rw [hk']; simp)
       rw [hA, hk'] at hbj
       obtain ⟨e1, e2, q1, q2, c, q3, q4, q5⟩ := hbj
       subst e1; subst e2
       simp only [Nat.zero_add] at q4 q5 hl
       have hl0 : l ≠ [] := fun e => by rw [e] at h1; exact absurd h1 (Nat.lt_irrefl _)
       have hcell : ∀ (i : Nat) (z : UInt8), l[i]? = some z → c[i]? = some (Value.int .u8 z.toNat) := fun i z hz => by
        have hi : i < l.length := (List.getElem?_eq_some_iff.1 hz).1
        have r := (q5 i 0 (by omega) (by omega)).1
        rw [h3 i hi] at r
        have e3 := Zg r
        rw [Nat.mul_one, Nat.add_zero, List.getD_eq_getElem?_getD, hz, Option.getD_some] at e3
        have hlt : i < c.size := by omega
        rw [Array.getD_eq_getD_getElem?, Array.getElem?_eq_getElem hlt, Option.getD_some] at e3
        rw [Array.getElem?_eq_getElem hlt, e3]
       have hrun := Kr Tryz.lays169 Tryz.Builder_Extra_169 g g' cap x c l w hl0 (by have := c1; simp only [Nat.zero_add, Nat.zero_mul, Nat.sub_zero] at this; exact this) q3 (by omega) q2 (by omega) hcell
       refine hrun.mono ?_
       rintro e w' ⟨rfl, rfl⟩
       obtain ⟨k1, k2, k3⟩ := hM.kill j hj false
       have k1' : Mem E nb (upd bl j .dead) S (upd ρ j .dead) w := by
        have : (fun b => S b ∨ (false = true ∧ (ρ j).has b)) = S := by funext b; simp
        rw [this] at k1; exact k1
       obtain ⟨o1, o2⟩ := hM.own j g' (by rw [hk']; rfl)
       obtain ⟨m1, m2⟩ := Mem.off k1' (w' := w.drew.freeze ⟨g', 0, none⟩ l.length) g' (fun b hb => by
         unfold World.freeze
         split
         ·rfl
         ·show (w.heap.modify g' _)[b]? = w.heap[b]?
          simp [Array.getElem?_modify, Ne.symm hb]) (by
         unfold World.freeze
         split
         ·rfl
         ·show (w.heap.modify g' _).size = w.heap.size
          simp) (by unfold World.freeze; split <;> rfl) (by unfold World.freeze; split <;> rfl) (by unfold World.freeze; split <;> rfl) (by unfold World.freeze; split <;> exact qU w 1)
         o1 (fun i hi => by
          by_cases e : i = j
          ·subst e; rw [upd_same] at hi; exact hi.elim
          ·rw [zg _ _ e] at hi; exact e (hM.dis i j g' hi (by rw [hk']; rfl))) o2
       exact ⟨_, _, S, _, _, _, rfl, h4, m1, m2, k2, .str l⟩
     ·exact h.elim
    ·exact h.elim
   ·exact h.elim
  ·exact h.elim
end Go.Te

namespace Go.Te
open Go Go.Sx Go.Proofs Go.Ar Go.Lib
set_option maxRecDepth 100000
set_option maxHeartbeats 4000000
def MO : List AV → Option (List zN × AV)
 | [.str s, .v (.int .i64 k)] => some ([.b (s == [48]), .p (0 ≤ k ∧ k ≤ 8)], .str (List.replicate k.toNat 48))
 | _ => none
theorem JI  :
 True := by
 trivial
theorem JO  :
 True := by
 trivial
theorem Jl  :
 True := by
 trivial
theorem iw  :
 True := by
 trivial
theorem Ir  :
 True := by
 trivial
theorem Ji  :
 True := by
 trivial
theorem Is  :
 True := by
 trivial
theorem Jj  :
 True := by
 trivial
theorem Ip  :
 True := by
 trivial
theorem SL {k : Int} {n : Nat} (e : k = n) (h : wz Tryz.prog (T0.deep Tryz.prog 5) 240 .auto [.str [48], .i k] (GL (List.replicate n 48))) : zS Tryz.prog [] 240 [.str [48], .i k] (.str (List.replicate k.toNat 48)) := by
 subst e
 exact yo mixed (zY.deep mixed zr 5) Kb h
theorem HP : zQ Tryz.prog [] 240 MO := by
 intro xs ps r h hp
 unfold MO at h
 split at h
 ·rename_i s k
  cases h
  have q : (s == [48]) = true := hp _ List.mem_cons_self
  have q1 : 0 ≤ k ∧ k ≤ 8 := hp _ (List.mem_cons_of_mem _ List.mem_cons_self)
  obtain rfl := eq_of_beq q
  obtain ⟨n, rfl⟩ : ∃ n : Nat, k = n := ⟨k.toNat, by omega⟩
  match n, q1 with
  | 0, _ => exact SL rfl (Eq.mp (by kernel_rfl) JI)
  | 1, _ => exact SL rfl (Eq.mp (by kernel_rfl) JO)
  | 2, _ => exact SL rfl (Eq.mp (by kernel_rfl) Jl)
  | 3, _ => exact SL rfl (Eq.mp (by kernel_rfl) iw)
  | 4, _ => exact SL rfl (Eq.mp (by kernel_rfl) Ir)
  | 5, _ => exact SL rfl (Eq.mp (by kernel_rfl) Ji)
  | 6, _ => exact SL rfl (Eq.mp (by kernel_rfl) Is)
  | 7, _ => exact SL rfl (Eq.mp (by kernel_rfl) Jj)
  | 8, _ => exact SL rfl (Eq.mp (by kernel_rfl) Ip)
  | n + 9, q1 => exact absurd q1.2 (by omega)
 ·cases h
def Tb.own1 (T : Tb) (f : FuncId) (t : Nat → (Nat → OB) → List AV → (Nat → (Nat → OB) → AV → Prop) → Prop) : Tb := { T with own := fun g => bif Nat.beq g f then some t else T.own g }
theorem zY.own1 {P : Program} {T : Tb} (hT : zY P T) {f : FuncId} {t : Nat → (Nat → OB) → List AV → (Nat → (Nat → OB) → AV → Prop) → Prop} (ht : Sl P T.objs f t) : zY P (Tb.own1 T f t) := by
 refine ⟨fun g t' h => ?_, hT.pu, hT.fre⟩
 simp only [Tb.own1] at h
 cases hx : Nat.beq g f with
 | false => rw [hx] at h; exact hT.own _ _ h
 | true =>
  rw [hx] at h
  obtain rfl := Nat.eq_of_beq_eq_true hx
  cases h
  exact ht
noncomputable def G1 (G : List (Nat × Obj)) : Tb := (Tb.own1 (Tb.own1 (j5 G) 120 gB) 73 KF).body Tryz.prog [(69, .auto), (70, .auto), (72, .auto), (239, .auto)]
theorem Od {G : List (Nat × Obj)} (hG : zM G) : zY Tryz.prog (G1 G) := zY.body mixed (zY.own1 (zY.own1 (xx hG) (J8 G)) (Ki G)) _
noncomputable def fx (G : List (Nat × Obj)) : Tb := (G1 G).plus 240 MO
theorem OC {G : List (Nat × Obj)} (hG : zM G) : zY Tryz.prog (fx G) := zY.plus (Od hG) (zQ.mono HP)
def z8 (x : Big) (z : Nat) : zh := (bif x.neg then [45] else []) ++ Lib.decDigits (Wz 1000000000 x.l z)
def gV (σ : ze) : Nat :=
 match σ.bl 1 with
 | .box _ _ cs => Yx (cs 1)
 | _ => 0
def IA (x : Big) : yW :=
 .two .auto (.one (.two .auto (.unroll (x.l.length + 1) (.loop Nat (fun σ z => [(0, σ.tm 0), (1, σ.tm 1), (3, .i ((z : Int) - 1))])
  (fun σ z => [(1, .box 108 2 (zT [.np 1 0, .ns σ.nb 0 (z8 x z).length])), (gV σ, .dead), (σ.nb, J4 (z8 x z))]) 1 (fun _ z => z < x.l.length) (fun _ z => z) .auto))))
def Ix (x : Big) : yW :=
 .two .auto (.two .auto (.two .auto (.two .auto (.two (.two .auto (.one (.range (IA x) .auto .auto))) .auto))))
theorem sr (a b : zh) (i : Nat) : (a ++ b).getD i 0 = if i < a.length then a.getD i 0 else b.getD (i - a.length) 0 := by
 by_cases h : i < a.length
 ·rw [if_pos h, List.getD_eq_getElem?_getD, List.getElem?_append_left h, ← List.getD_eq_getElem?_getD]
 ·rw [if_neg h, List.getD_eq_getElem?_getD, List.getElem?_append_right (by omega), ← List.getD_eq_getElem?_getD]
theorem Gt (a b : zh) (i : Nat) : zc (if i < a.length then AV.v (Value.int IntKind.u8 ((a.getD i 0).toNat : Int)) else AV.v (Value.int IntKind.u8 ((b.getD (i - a.length) 0).toNat : Int))) (AV.v (Value.int IntKind.u8 (((a ++ b).getD i 0).toNat : Int))) := by
 rw [sr]
 split <;> exact zX _
theorem GU (a b c : zh) (i : Nat) : zc (if i < a.length + b.length then (if i < a.length then AV.v (Value.int IntKind.u8 ((a.getD i 0).toNat : Int)) else AV.v (Value.int IntKind.u8 ((b.getD (i - a.length) 0).toNat : Int))) else AV.v (Value.int IntKind.u8 ((c.getD (i - (a.length + b.length)) 0).toNat : Int))) (AV.v (Value.int IntKind.u8 (((a ++ b ++ c).getD i 0).toNat : Int))) := by
 rw [sr (a ++ b) c, List.length_append]
 split
 ·exact Gt a b i
 ·exact zX _
theorem Gn (c : UInt8) (b : zh) (i : Nat) : zc (if i < 1 then AV.v (Value.int IntKind.u8 (c.toNat : Int)) else AV.v (Value.int IntKind.u8 ((b.getD (i - 1) 0).toNat : Int))) (AV.v (Value.int IntKind.u8 (((c :: b).getD i 0).toNat : Int))) := by
 match i with
 | 0 => exact zX _
 | i + 1 => rw [if_neg (by omega)]; exact zX _
theorem WB {n : Int} (h0 : 0 ≤ n) (h1 : n < 1000000000) : 1 ≤ (itoa n).length ∧ (itoa n).length ≤ 9 ∧ itoa n = decDigits n.toNat := by
 obtain ⟨m, rfl⟩ : ∃ m : Nat, n = m := ⟨n.toNat, by omega⟩
 have e : itoa (m : Int) = decDigits m := Go.Ar.Zi m
 rw [Int.toNat_natCast, e]
 refine ⟨yw m, ?_, rfl⟩
 rw [Lib.decDigits_length]
 exact (Z7 (by omega)).2 (by omega)
theorem mM {x : Big} (hx : Zv 1000000000 x.l) (h : 0 < x.l.length) : z8 x (x.l.length - 1) = (bif x.neg then [45] else []) ++ itoa (x.l.getD (x.l.length - 1) 0) := by
 have g := hx.get (by omega) (x.l.length - 1)
 rw [(WB g.1 g.2).2.2]
 unfold z8
 rw [OX h]
theorem NI {l : List Int} (hx : Zv 1000000000 l) (ht : zm l = l) {z : Nat} (hz : z < l.length) : Wz 1000000000 l z ≠ 0 := by
 have e : l = zw 1000000000 (zW 1000000000 l).toNat := YI (b := 1000000000) (by omega) hx ht
 have hn : (zW 1000000000 l).toNat ≠ 0 := fun e0 => by
  rw [e0, Zj] at e
  rw [e] at hz
  exact absurd hz (Nat.not_lt_zero _)
 rw [e] at hz ⊢
 exact LS (b := 1000000000) (by omega) hn hz
theorem kZ {x : Big} (hx : Zv 1000000000 x.l) (ht : zm x.l = x.l) {z : Nat} (h0 : 0 < z) (h : z < x.l.length) :
  z8 x (z - 1) = z8 x z ++ List.replicate (9 - ((itoa (x.l.getD (z - 1) 0)).length : Int)).toNat 48 ++ itoa (x.l.getD (z - 1) 0) := by
 have g := hx.get (by omega) (z - 1)
 obtain ⟨g1, g2, g3⟩ := WB g.1 g.2
 have hs := OG (k := 9) (l := x.l) (by omega) hx (i := z - 1) (by omega) (by rw [show z - 1 + 1 = z by omega]; exact NI hx ht h)
 rw [show z - 1 + 1 = z by omega] at hs
 unfold z8
 rw [show decDigits (Wz 1000000000 x.l (z - 1)) = decDigits (Wz 1000000000 x.l z) ++ TU 9 (x.l.getD (z - 1) 0).toNat from hs]
 unfold TU
 rw [← g3, show (9 - ((itoa (x.l.getD (z - 1) 0)).length : Int)).toNat = 9 - (itoa (x.l.getD (z - 1) 0)).length by omega]
 simp only [List.append_assoc]
theorem It {x : Big} (hx : Zv 1000000000 x.l) (z : Nat) : (z8 x z).length ≤ 9 * x.l.length + 2 := by
 unfold z8
 rw [List.length_append]
 have h1 : (bif x.neg then [(45 : UInt8)] else []).length ≤ 1 := by cases x.neg <;> simp
 have h2 : (decDigits (Wz 1000000000 x.l z)).length ≤ 9 * x.l.length + 1 := by
  rw [Lib.decDigits_length]
  refine (Z7 (by omega)).2 ?_
  have h3 := yB (b := 1000000000) (by omega) (hx.drop z)
  have h4 := zj (b := 1000000000) (by omega) (hx.drop z)
  unfold Wz
  have h5 : (1000000000 : Nat) ^ (x.l.drop z).length ≤ 1000000000 ^ x.l.length := Nat.pow_le_pow_right (by omega) (by simp)
  have h6 : (1000000000 : Nat) ^ x.l.length = 10 ^ (9 * x.l.length) := by rw [Nat.pow_mul]
  have h7 : 10 ^ (9 * x.l.length) ≤ 10 ^ (9 * x.l.length + 1) := Nat.pow_le_pow_right (by omega) (by omega)
  have h8 : (zW 1000000000 (x.l.drop z)).toNat < 1000000000 ^ (x.l.drop z).length := by
   have : ((zW 1000000000 (x.l.drop z)).toNat : Int) < ((1000000000 ^ (x.l.drop z).length : Nat) : Int) := by rw [Int.toNat_of_nonneg h4, Int.natCast_pow]; exact h3
   omega
  exact Nat.lt_of_lt_of_le h8 (by omega)
 omega
theorem Jb {x : Big} (hx : Zv 1000000000 x.l) (ht : zm x.l = x.l) (h : 0 < x.l.length) : z8 x 0 = itoa (bif x.neg then - zW 1000000000 x.l else zW 1000000000 x.l) ∧ 0 < (z8 x 0).length := by
 have hz := NI hx ht h
 have e : Wz 1000000000 x.l 0 = (zW 1000000000 x.l).toNat := by unfold Wz; rw [List.drop_zero]; rfl
 rw [e] at hz
 unfold z8
 rw [e]
 obtain ⟨n, hn⟩ : ∃ n : Nat, zW 1000000000 x.l = n := ⟨(zW 1000000000 x.l).toNat, by omega⟩
 rw [hn] at hz ⊢
 rw [Int.toNat_natCast] at hz ⊢
 refine ⟨?_, by have := yw n; simp; omega⟩
 cases x.neg with
 | true => exact (Go.Ar.itoa_neg (by omega)).symm
 | false => exact (Go.Ar.Zi n).symm
def tP : List AV → Option (List zN × AV)
 | [x_x] => some ([.b (ZH Big x_x), .p (Zv 1000000000 (ZR (α := Big) x_x).l), .p (zm (ZR (α := Big) x_x).l = (ZR (α := Big) x_x).l), .p ((ZR (α := Big) x_x).l.length ≤ 100000000)], .str (itoa (bif (ZR (α := Big) x_x).neg then - zW 1000000000 (ZR (α := Big) x_x).l else zW 1000000000 (ZR (α := Big) x_x).l)))
 | _ => none
theorem O4 (G : List (Nat × Obj)) (x : Big) (hx : Zv 1000000000 x.l) (ht : zm x.l = x.l) (hl : x.l.length ≤ 100000000) :
 let q1 := (bif Big.neg x then -zW iB (Big.l x) else zW iB (Big.l x)); let q3 := ((lZ (Big.l x)) - iO); let q2 := (dK q3); let q4 := (leB iZ q3); let q5 := (DB.db (iZ ≤ (lZ (Big.l x)) - iO ∧ (lZ (Big.l x)) - iO < (lZ (Big.l x)))); let q7 := (Int.toNat q3); let q6 := (iN ≤ gD (Big.l x) q7 zp.dflt ∧ gD (Big.l x) q7 zp.dflt ≤ iX); let q8 := (zn q3 q3); let q12 := (itoa
 (gD (Big.l x) q7 zp.dflt)); let q11 := (lZ q12); let q10 := ((9 : Int) - q11); let q9 := (dK q10); let q13 := (iZ ≤ (9 : Int) - q11 ∧ (9 : Int) - q11 ≤ (8 : Int)); let q15 := (List.replicate (Int.toNat q10) (48 : UInt8)); let q14 := (1 + lN q15); let q16 := (dK ((lZ (Big.l x)) - iO - iO)); let q18 := (xI (Big.l x)); let q17 := (180 = 180 ∧ 2 = 2 ∧ Big.neg x = Big.neg x ∧ zc q18 q18); zB [AV.agg 2
 (zp.enc x)] → zZ ((lZ (Big.l x)) == iZ) (bA #[(48 : UInt8)] = itoa q1) (zZ (Big.neg x) (bF q2 (zZ q4 (bF q5 (q6 ∧ bF q2 (zZ q8 (bF q9 (q13 ∧ bF (DB.db (q14 * 1 ≤ 140737488355328)) (bF (DB.db ((1 + lN q15 + lN q12) * 1 ≤ 140737488355328)) (bF q16 ((∃ (z : Nat), ((z < lN (Big.l x) ∧ z < lN (Big.l x) + 1) ∧ nat_lit 4 = 4 ∧ (nat_lit 3 = 3 ∧ 0 = 0) ∧ kI ∧ (lZ (Big.l x)) - iO - iO = (cI z) - iO) ∧
 ((((((q17 ∧ 108 = 108 ∧ 2 = 2 ∧ (1 = 1 ∧ 0 = 0) ∧ nat_lit 7 = 7 ∧ 0 = 0 ∧ lN (z8 x z) = 1 + lN q15 + lN q12) ∧ True) ∧ 57 = 57 ∧ 1 = 1 ∧ zc q18 q18) ∧ lR) ∧ True) ∧ True) ∧ (5 : TypeId) = 5 ∧ 1 = 1 ∧ lN (z8 x z) = 1 + lN q15 + lN q12 ∧ ∀ (i j : Nat), i < 1 + lN q15 + lN q12 → j < 1 → zc (if i < 1 + lN q15 then if i < 1 then Sx.rowAt [fun (x : Nat) => AV.v (Value.int IntKind.u8 (45 : Int))] i j else a8 (gD q15 (i
 - 1) (0 : UInt8)) else a8 (gD q12 (i - q14) (0 : UInt8))) (a8 (gD (z8 x z) i (0 : UInt8)))) ∧ ∀ (z : Nat), let q21 := (itoa (gD (Big.l x) (Int.toNat ((cI z) - iO)) zp.dflt)); let q20 := (lZ q21); let q19 := ((9 : Int) - q20); let q23 := (List.replicate (Int.toNat q19) (48 : UInt8)); let q22 := (lN (z8 x z) + lN q23); let q24 := (dK ((cI z) - iO - iO)); z < lN (Big.l x) → zZ
 (leB iZ ((cI z) - iO)) (bF (DB.db (iZ ≤ (cI z) - iO ∧ (cI z) - iO < (lZ (Big.l x)))) ((iN ≤ gD (Big.l x) (Int.toNat ((cI z) - iO)) zp.dflt ∧ gD (Big.l x) (Int.toNat ((cI z) - iO)) zp.dflt ≤ iX) ∧ bF q2 (zZ (zn ((cI z) - iO) q3) (bF (dK q19) ((iZ ≤ (9 : Int) - q20 ∧ (9 : Int) - q20 ≤ (8 : Int)) ∧ bF (DB.db (q22 * 1 ≤ 140737488355328)) (bF (DB.db ((lN (z8 x z) + lN q23
 + lN q21) * 1 ≤ 140737488355328)) (bF q24 (∃ (z' : Nat), ((z' < lN (Big.l x) ∧ z' < z) ∧ nat_lit 4 = 4 ∧ (nat_lit 3 = 3 ∧ 0 = 0) ∧ kI ∧ (cI z) - iO - iO = (cI z') - iO) ∧ ((((((q17 ∧ 108 = 108 ∧ 2 = 2 ∧ (1 = 1 ∧ 0 = 0) ∧ nat_lit 7 = 7 ∧ 0 = 0 ∧ lN (z8 x z') = lN (z8 x z) + lN q23 + lN q21) ∧ True) ∧ 57 = 57 ∧ 1 = 1 ∧ zc q18 q18) ∧ lR) ∧ True) ∧ True) ∧ (5 : TypeId) = 5 ∧ 1 = 1 ∧ lN (z8 x z') = lN (z8 x z) +
 lN q23 + lN q21 ∧ ∀ (i j : Nat), i < lN (z8 x z) + lN q23 + lN q21 → j < 1 → zc (if i < lN (z8 x z) + lN q23 then if i < lN (z8 x z) then a8 (gD (z8 x z) i (0 : UInt8)) else a8 (gD q23 (i - lN (z8 x z)) (0 : UInt8)) else a8 (gD q21 (i - q22) (0 : UInt8))) (AV.v (Value.int IntKind.u8 (↑(UInt8.toNat (gD (z8 x z') i (0 : UInt8))) :
 Int)))))))) (bF (DB.db ((lN (z8 x z) + lN q21) * 1 ≤ 140737488355328)) (bF q24 (∃ (z' : Nat), ((z' < lN (Big.l x) ∧ z' < z) ∧ nat_lit 4 = 4 ∧ (nat_lit 3 = 3 ∧ 0 = 0) ∧ kI ∧ (cI z) - iO - iO = (cI z') - iO) ∧ ((((((q17 ∧ 108 = 108 ∧ 2 = 2 ∧ (1 = 1 ∧ 0 = 0) ∧ nat_lit 7 = 7 ∧ 0 = 0 ∧ lN (z8 x z') = lN (z8 x z) + lN q21) ∧ True) ∧ 57 = 57 ∧ 1 = 1 ∧ zc q18 q18) ∧ lR) ∧ True) ∧ True) ∧ (5 : TypeId) = 5 ∧ 1 = 1 ∧
 lN (z8 x z') = lN (z8 x z) + lN q21 ∧ ∀ (i j : Nat), i < lN (z8 x z) + lN q21 → j < 1 → zc (if i < lN (z8 x z) then a8 (gD (z8 x z) i (0 : UInt8)) else a8 (gD q21 (i - lN (z8 x z)) (0 : UInt8))) (a8 (gD (z8 x z') i (0 : UInt8))))))))) (0 < lN (z8 x z) ∧ ∃ (l : List UInt8), lN l = lN (z8 x z) ∧ (∀ (i :
 Nat), i < lN (z8 x z) → a8 (gD (z8 x z) i (0 : UInt8)) = a8 (gD l i (0 : UInt8))) ∧ l = itoa q1)))))) (bF (DB.db ((1 + lN q12) * 1 ≤ 140737488355328)) (bF q16 ((∃ (z : Nat), ((z < lN (Big.l x) ∧ z < lN (Big.l x) + 1) ∧ nat_lit 4 = 4 ∧ (nat_lit 3 = 3 ∧ 0 = 0) ∧ kI ∧ (lZ (Big.l x)) - iO - iO = (cI z) - iO) ∧ (((((q17 ∧ 108 = 108 ∧ 2 = 2 ∧ (1 = 1 ∧ 0 = 0) ∧
 nat_lit 6 = 6 ∧ 0 = 0 ∧ lN (z8 x z) = 1 + lN q12) ∧ True) ∧ 57 = 57 ∧ 1 = 1 ∧ zc q18 q18) ∧ lR) ∧ True) ∧ (5 : TypeId) = 5 ∧ 1 = 1 ∧ lN (z8 x z) = 1 + lN q12 ∧ ∀ (i j : Nat), i < 1 + lN q12 → j < 1 → zc (if i < 1 then Sx.rowAt [fun (x : Nat) => AV.v (Value.int IntKind.u8 (45 : Int))] i j else a8 (gD q12 (i - 1) (0 : UInt8))) (a8 (gD (z8 x z) i (0 : UInt8)))) ∧ ∀ (z : Nat), let q27
 := (itoa (gD (Big.l x) (Int.toNat ((cI z) - iO)) zp.dflt)); let q26 := (lZ q27); let q25 := ((9 : Int) - q26); let q29 := (List.replicate (Int.toNat q25) (48 : UInt8)); let q28 := (lN (z8 x z) + lN q29); let q30 := (dK ((cI z) - iO - iO)); z < lN (Big.l x) → zZ (leB iZ ((cI z) - iO)) (bF (DB.db (iZ ≤ (cI z) - iO ∧ (cI z) - iO < (lZ (Big.l x)))) ((iN ≤ gD (Big.l x) (Int.toNat ((cI z) - (1 :
 Int))) zp.dflt ∧ gD (Big.l x) (Int.toNat ((cI z) - iO)) zp.dflt ≤ iX) ∧ bF q2 (zZ (zn ((cI z) - iO) q3) (bF (dK q25) ((iZ ≤ (9 : Int) - q26 ∧ (9 : Int) - q26 ≤ (8 : Int)) ∧ bF (DB.db (q28 * 1 ≤ 140737488355328)) (bF (DB.db ((lN (z8 x z) + lN q29 + lN q27) * 1 ≤ 140737488355328)) (bF q30 (∃ (z' : Nat), ((z' < lN (Big.l x) ∧ z' < z) ∧ nat_lit 4 = 4 ∧ (nat_lit 3 = 3 ∧ 0 = 0) ∧ kI ∧ (cI z) - iO - iO = (cI z') - iO) ∧
 (((((q17 ∧ 108 = 108 ∧ 2 = 2 ∧ (1 = 1 ∧ 0 = 0) ∧ nat_lit 6 = 6 ∧ 0 = 0 ∧ lN (z8 x z') = lN (z8 x z) + lN q29 + lN q27) ∧ True) ∧ 57 = 57 ∧ 1 = 1 ∧ zc q18 q18) ∧ lR) ∧ True) ∧ (5 : TypeId) = 5 ∧ 1 = 1 ∧ lN (z8 x z') = lN (z8 x z) + lN q29 + lN q27 ∧ ∀ (i j : Nat), i < lN (z8 x z) + lN q29 + lN q27 → j < 1 → zc (if i < lN (z8 x z) + lN q29 then if i < lN (z8 x z) then AV.v (Value.int IntKind.u8
 (cI (UInt8.toNat (gD (z8 x z) i (0 : UInt8))))) else a8 (gD q29 (i - lN (z8 x z)) (0 : UInt8)) else a8 (gD q27 (i - q28) (0 : UInt8))) (a8 (gD (z8 x z') i (0 : UInt8)))))))) (bF (DB.db ((lN (z8 x z) + lN q27) * 1 ≤ 140737488355328)) (bF q30 (∃ (z' : Nat), ((z' < lN (Big.l x) ∧ z' < z) ∧ nat_lit 4 = 4 ∧ (nat_lit 3 = 3 ∧ 0 = 0) ∧ kI
 ∧ (cI z) - iO - iO = (cI z') - iO) ∧ (((((q17 ∧ 108 = 108 ∧ 2 = 2 ∧ (1 = 1 ∧ 0 = 0) ∧ nat_lit 6 = 6 ∧ 0 = 0 ∧ lN (z8 x z') = lN (z8 x z) + lN q27) ∧ True) ∧ 57 = 57 ∧ 1 = 1 ∧ zc q18 q18) ∧ lR) ∧ True) ∧ (5 : TypeId) = 5 ∧ 1 = 1 ∧ lN (z8 x z') = lN (z8 x z) + lN q27 ∧ ∀ (i j : Nat), i < lN (z8 x z) + lN q27 → j < 1 → zc (if i < lN (z8 x z) then a8 (gD (z8 x z) i (0 :
 UInt8)) else a8 (gD q27 (i - lN (z8 x z)) (0 : UInt8))) (a8 (gD (z8 x z') i (0 : UInt8))))))))) (0 < lN (z8 x z) ∧ ∃ (l : List UInt8), lN l = lN (z8 x z) ∧ (∀ (i : Nat), i < lN (z8 x z) → a8 (gD (z8 x z) i (0 : UInt8)) = a8 (gD l i (0 : UInt8))) ∧ l = itoa q1)))))))
 (0 < 1 ∧ ∃ (l : List UInt8), lN l = 1 ∧ (∀ (i : Nat), i < 1 → Sx.rowAt [fun (x : Nat) => AV.v (Value.int IntKind.u8 (45 : Int))] i 0 = a8 (gD l i (0 : UInt8))) ∧ l = itoa q1))) (bF q2 (zZ q4 (bF q5 (q6 ∧ bF q2 (zZ q8 (bF q9 (q13 ∧ bF (DB.db (lN q15 * 1 ≤ 140737488355328)) (bF (DB.db ((lN q15 + lN q12) * 1 ≤ 140737488355328)) (bF q16 ((∃ (z : Nat), ((z < lN (Big.l x) ∧ z < lN (Big.l x) + 1) ∧ nat_lit 3 = 3 ∧ (nat_lit 2 = 2 ∧ 0 = 0) ∧ IntKind.i64 =
 .i64 ∧ (lZ (Big.l x)) - iO - iO = (cI z) - iO) ∧ (((((q17 ∧ 108 = 108 ∧ 2 = 2 ∧ (1 = 1 ∧ 0 = 0) ∧ nat_lit 6 = 6 ∧ 0 = 0 ∧ lN (z8 x z) = lN q15 + lN q12) ∧ 57 = 57 ∧ 1 = 1 ∧ zc q18 q18) ∧ lR) ∧ True) ∧ True) ∧ (5 : TypeId) = 5 ∧ 1 = 1 ∧ lN (z8 x z) = lN q15 + lN q12 ∧ ∀ (i j : Nat), i < lN q15 + lN q12 → j < 1 → zc (if i < lN q15 then a8 (gD q15 i (0 : UInt8))
 else a8 (gD q12 (i - lN q15) (0 : UInt8))) (a8 (gD (z8 x z) i (0 : UInt8)))) ∧ ∀ (z : Nat), let q33 := (itoa (gD (Big.l x) (Int.toNat ((cI z) - iO)) zp.dflt)); let q32 := (lZ q33); let q31 := ((9 : Int) - q32); let q35 := (List.replicate (Int.toNat q31) (48 : UInt8)); let q34 := (lN (z8 x z) + lN q35); let q36 := (dK ((cI z) - iO - iO)); z < lN (Big.l x) → zZ (leB iZ
 ((cI z) - iO)) (bF (DB.db (iZ ≤ (cI z) - iO ∧ (cI z) - iO < (lZ (Big.l x)))) ((iN ≤ gD (Big.l x) (Int.toNat ((cI z) - iO)) zp.dflt ∧ gD (Big.l x) (Int.toNat ((cI z) - iO)) zp.dflt ≤ iX) ∧ bF q2 (zZ (zn ((cI z) - iO) q3) (zZ (dK q31) ((iZ ≤ (9 : Int) - q32 ∧ (9 : Int) - q32 ≤ (8 : Int)) ∧ bF (DB.db (q34 * 1 ≤ 140737488355328)) (bF (DB.db ((lN (z8 x z) + lN q35 + List.length
 q33) * 1 ≤ 140737488355328)) (bF q36 (∃ (z' : Nat), ((z' < lN (Big.l x) ∧ z' < z) ∧ nat_lit 3 = 3 ∧ (nat_lit 2 = 2 ∧ 0 = 0) ∧ kI ∧ (cI z) - iO - iO = (cI z') - iO) ∧ (((((q17 ∧ 108 = 108 ∧ 2 = 2 ∧ (1 = 1 ∧ 0 = 0) ∧ nat_lit 6 = 6 ∧ 0 = 0 ∧ lN (z8 x z') = lN (z8 x z) + lN q35 + lN q33) ∧ 57 = 57 ∧ 1 = 1 ∧ zc q18 q18) ∧ lR) ∧ True) ∧ True) ∧ (5 : TypeId) = 5 ∧ 1 = 1 ∧ lN (z8 x z') = lN (z8 x z) + lN q35 + List.length
 q33 ∧ ∀ (i j : Nat), i < lN (z8 x z) + lN q35 + lN q33 → j < 1 → zc (if i < lN (z8 x z) + lN q35 then if i < lN (z8 x z) then a8 (gD (z8 x z) i (0 : UInt8)) else a8 (gD q35 (i - lN (z8 x z)) (0 : UInt8)) else a8 (gD q33 (i - q34) (0 : UInt8))) (a8 (gD (z8 x z') i (0 : UInt8)))))))
 False) (bF (DB.db ((lN (z8 x z) + lN q33) * 1 ≤ 140737488355328)) (bF q36 (∃ (z' : Nat), ((z' < lN (Big.l x) ∧ z' < z) ∧ nat_lit 3 = 3 ∧ (nat_lit 2 = 2 ∧ 0 = 0) ∧ kI ∧ (cI z) - iO - iO = (cI z') - iO) ∧ (((((q17 ∧ 108 = 108 ∧ 2 = 2 ∧ (1 = 1 ∧ 0 = 0) ∧ nat_lit 6 = 6 ∧ 0 = 0 ∧ lN (z8 x z') = lN (z8 x z) + lN q33) ∧ 57 = 57 ∧ 1 = 1 ∧ zc q18 q18) ∧ lR) ∧ True) ∧ True) ∧ (5 : TypeId) = 5 ∧ 1 = 1 ∧ lN (z8 x z') = List.length
 (z8 x z) + lN q33 ∧ ∀ (i j : Nat), i < lN (z8 x z) + lN q33 → j < 1 → zc (if i < lN (z8 x z) then a8 (gD (z8 x z) i (0 : UInt8)) else a8 (gD q33 (i - lN (z8 x z)) (0 : UInt8))) (a8 (gD (z8 x z') i (0 : UInt8))))))))) (0 < lN (z8 x z) ∧ ∃ (l : List UInt8), lN l = lN (z8 x z) ∧ (∀ (i : Nat), i < lN (z8 x z) →
 a8 (gD (z8 x z) i (0 : UInt8)) = a8 (gD l i (0 : UInt8))) ∧ l = itoa q1)))))) (bF (DB.db (lN q12 * 1 ≤ 140737488355328)) (bF q16 ((∃ (z : Nat), ((z < lN (Big.l x) ∧ z < lN (Big.l x) + 1) ∧ nat_lit 3 = 3 ∧ (nat_lit 2 = 2 ∧ 0 = 0) ∧ kI ∧ (lZ (Big.l x)) - iO - iO = (cI z) - iO) ∧ ((((q17 ∧ 108 = 108 ∧ 2 = 2 ∧ (1 = 1 ∧ 0 = 0) ∧ nat_lit 5 = 5 ∧ 0 = 0 ∧ lN (z8 x
 z) = lN q12) ∧ 57 = 57 ∧ 1 = 1 ∧ zc q18 q18) ∧ lR) ∧ True) ∧ (5 : TypeId) = 5 ∧ 1 = 1 ∧ lN (z8 x z) = lN q12 ∧ ∀ (i j : Nat), i < lN q12 → j < 1 → IntKind.u8 = IntKind.u8 ∧ (cI (UInt8.toNat (gD q12 i (0 : UInt8)))) = (cI (UInt8.toNat (gD (z8 x z) i (0 : UInt8))))) ∧ ∀ (z : Nat), let q39 := (itoa (gD (Big.l x) (Int.toNat ((cI z) - iO)) zp.dflt)); let q38 := (lZ q39); let q37 := ((9 : Int) - q38); let q41 := (List.replicate (Int.toNat q37) (48 :
 UInt8)); let q40 := (lN (z8 x z) + lN q41); let q42 := (dK ((cI z) - iO - iO)); z < lN (Big.l x) → zZ (leB iZ ((cI z) - iO)) (bF (DB.db (iZ ≤ (cI z) - iO ∧ (cI z) - iO < (lZ (Big.l x)))) ((iN ≤ gD (Big.l x) (Int.toNat ((cI z) - iO)) zp.dflt ∧ gD (Big.l x) (Int.toNat ((cI z) - iO)) zp.dflt ≤ iX) ∧ bF q2 (zZ (zn ((cI z) - iO) q3) (bF (DB.db (YZ .i64
 q37)) ((iZ ≤ (9 : Int) - q38 ∧ (9 : Int) - q38 ≤ (8 : Int)) ∧ bF (DB.db (q40 * 1 ≤ 140737488355328)) (bF (DB.db ((lN (z8 x z) + lN q41 + lN q39) * 1 ≤ 140737488355328)) (bF q42 (∃ (z' : Nat), ((z' < lN (Big.l x) ∧ z' < z) ∧ nat_lit 3 = 3 ∧ (nat_lit 2 = 2 ∧ 0 = 0) ∧ kI ∧ (cI z) - iO - iO = (cI z') - iO) ∧ ((((q17 ∧ 108 = 108 ∧ 2 = 2 ∧ (1 = 1 ∧ 0 = 0) ∧ nat_lit 5 = 5 ∧ 0 = 0 ∧ lN (z8 x z') = lN (z8 x z) + lN q41 + lN q39) ∧ 57 = 57 ∧ 1 = 1 ∧ zc q18 q18) ∧
 lR) ∧ True) ∧ (5 : TypeId) = 5 ∧ 1 = 1 ∧ lN (z8 x z') = lN (z8 x z) + lN q41 + lN q39 ∧ ∀ (i j : Nat), i < lN (z8 x z) + lN q41 + lN q39 → j < 1 → zc (if i < lN (z8 x z) + lN q41 then if i < lN (z8 x z) then a8 (gD (z8 x z) i (0 : UInt8)) else a8 (gD q41 (i - lN (z8 x z)) (0 : UInt8)) else AV.v (Value.int IntKind.u8
 (cI (UInt8.toNat (gD q39 (i - q40) (0 : UInt8)))))) (a8 (gD (z8 x z') i (0 : UInt8)))))))) (bF (DB.db ((lN (z8 x z) + lN q39) * 1 ≤ 140737488355328)) (zZ q42 (∃ (z' : Nat), ((z' < lN (Big.l x) ∧ z' < z) ∧ nat_lit 3 = 3 ∧ (nat_lit 2 = 2 ∧ 0 = 0) ∧ kI ∧ (cI z) - iO - iO = (cI z') - iO) ∧ ((((q17 ∧ 108 = 108 ∧ 2 = 2 ∧ (1 = 1 ∧ 0 = 0) ∧ nat_lit 5 = 5 ∧ 0 = 0 ∧ lN (z8 x z') = lN (z8 x z) + lN q39)
 ∧ 57 = 57 ∧ 1 = 1 ∧ zc q18 q18) ∧ lR) ∧ True) ∧ (5 : TypeId) = 5 ∧ 1 = 1 ∧ lN (z8 x z') = lN (z8 x z) + lN q39 ∧ ∀ (i j : Nat), i < lN (z8 x z) + lN q39 → j < 1 → zc (if i < lN (z8 x z) then a8 (gD (z8 x z) i (0 : UInt8)) else a8 (gD q39 (i - lN (z8 x z)) (0 : UInt8))) (a8 (gD (z8 x z') i (0 : UInt8))))
 False))))) (0 < lN (z8 x z) ∧ ∃ (l : List UInt8), lN l = lN (z8 x z) ∧ (∀ (i : Nat), i < lN (z8 x z) → a8 (gD (z8 x z) i (0 : UInt8)) = a8 (gD l i (0 : UInt8))) ∧ l = itoa q1))))))) ([] = itoa q1)))) := by
 delta bF dK bA a8 xI lR cI kI lZ lN gD iZ iO iX iN iB
 dsimp only
 intro hb
 have e0 : (zp.dflt : Int) = 0 := rfl
 simp only [↓ZK, ↓ZT, row_one]
 simp only [sS, dS, e0]
 refine ⟨fun hz => ?_, fun hz => ?_⟩
 ·have he : x.l = [] := List.eq_nil_of_length_eq_zero (by omega)
  rw [he]
  have : itoa ((0 : Nat) : Int) = [48] := by rw [Go.Ar.Zi, zA (by omega)]; rfl
  cases x.neg <;> exact this.symm
 have h0 : 0 < x.l.length := by omega
 have en : ((x.l.length : Int) - 1).toNat = x.l.length - 1 := by omega
 have ez : ∀ z : Nat, ((z : Int) - 1).toNat = z - 1 := fun z => by omega
 simp only [en, ez, Nat.mul_one]
 have gN := hx.get (by omega) (x.l.length - 1)
 obtain ⟨i1, i2, i3⟩ := WB gN.1 gN.2
 have f1 := mM hx h0
 refine zu.2 ⟨fun c => ⟨⟨by omega, by omega⟩, fun _ => ⟨⟨by omega, by omega⟩, ⟨by omega, by omega⟩, ⟨by omega, by omega⟩, fun h => absurd h (by omega), fun _ => ⟨by omega, ⟨by omega, by omega⟩, ⟨x.l.length - 1, ⟨⟨by omega, by omega⟩, by omega⟩, ?_, ?_, fun i j _ _ => ?_⟩, ?_⟩⟩, fun h => absurd h (by omega)⟩,
  fun c => ⟨⟨by omega, by omega⟩, fun _ => ⟨⟨by omega, by omega⟩, ⟨by omega, by omega⟩, ⟨by omega, by omega⟩, fun h => absurd h (by omega), fun _ => ⟨by omega, ⟨by omega, by omega⟩, ⟨x.l.length - 1, ⟨⟨by omega, by omega⟩, by omega⟩, ?_, ?_, fun i j _ _ => ?_⟩, ?_⟩⟩, fun h => absurd h (by omega)⟩⟩
 all_goals try rw [c] at f1
 ·rw [f1]; simp only [cond_true, List.length_append, List.length_singleton]
 ·rw [f1]; simp only [cond_true, List.length_append, List.length_singleton]
 ·rw [f1]; exact Gn 45 _ i
 rotate_left
 ·rw [f1]; rfl
 ·rw [f1]; rfl
 ·rw [f1]; rfl
 all_goals
  intro z hz1
  have wl := It hx z
  refine ⟨fun hz2 => ?_, fun hz2 => ?_⟩
  ·have g := hx.get (by omega) (z - 1)
   obtain ⟨g1, g2, g3⟩ := WB g.1 g.2
   have hs := kZ hx ht (z := z) (by omega) hz1
   have lr : (List.replicate (9 - ((itoa (x.l.getD (z - 1) 0)).length : Int)).toNat (48 : UInt8)).length ≤ 8 := by rw [List.length_replicate]; omega
   refine ⟨⟨by omega, by omega⟩, ⟨by omega, by omega⟩, ⟨by omega, by omega⟩, fun _ => ⟨⟨by omega, by omega⟩, ⟨by omega, by omega⟩, by omega, by omega, ⟨by omega, by omega⟩, z - 1, ⟨⟨by omega, by omega⟩, by omega⟩, ?_, ?_, fun i j _ _ => ?_⟩, fun h => absurd h (by omega)⟩
   ·rw [hs, List.length_append, List.length_append]
   ·rw [hs, List.length_append, List.length_append]
   ·rw [hs]; exact GU _ _ _ i
  ·obtain rfl : z = 0 := by omega
   obtain ⟨w1, w2⟩ := Jb hx ht h0
   exact ⟨w2, z8 x 0, rfl, fun _ _ => rfl, w1⟩
theorem mO {G : List (Nat × Obj)} (hG : zM G) (x : Big) (hx : Zv 1000000000 x.l) (ht : zm x.l = x.l) (hl : x.l.length ≤ 100000000) : zS Tryz.prog G 205 [yx x] (.str (itoa (bif x.neg then - zW 1000000000 x.l else zW 1000000000 x.l))) :=
 zV (T := fx G) (an := Ix x) mixed (OC hG) (Eq.mp (by kernel_rfl) (O4 G x hx ht hl))
theorem Ls {G : List (Nat × Obj)} (hG : zM G) : zQ Tryz.prog G 205 tP := by
 intro xs ps r h hp
 unfold tP at h
 split at h
 ·skip
  rename_i x_x
  cases h
  obtain ⟨q0, q1, q2, q3, -⟩ := Zx hp
  exact weaken (ys := [yx (ZR (α := Big) x_x)]) ⟨zH q0, trivial⟩ (mO hG (ZR (α := Big) x_x) q1 q2 q3)
 ·cases h
end Go.Te

namespace Go.Te
open Go Go.Sx Go.Proofs Go.Ar
set_option maxRecDepth 100000
set_option maxHeartbeats 4000000
def YX (n : Bool) (l : List Int) : Int := bif n then - zW 1000000000 l else zW 1000000000 l
theorem qQ (x : Big) : ZR (AV.agg 2 fun i => zp.enc x i) = x := Vz x
theorem sI (x : Big) : ZH Big (AV.agg 2 fun i => zp.enc x i) = true := Xo x
theorem LK (n : Int) : (zR (Lib.itoa n)).length = Vk n := by
 obtain ⟨h1, h2⟩ := Z8 n
 rw [← (rC (Lib.itoa n)).2, wj h1, h2]
def VJ : List AV → Option (List zN × AV)
 | [x_x] => some ([.b (ZH Big x_x), .p (Zv 1000000000 (ZR (α := Big) x_x).l), .p (zm (ZR (α := Big) x_x).l = (ZR (α := Big) x_x).l), .p ((ZR (α := Big) x_x).l.length ≤ 100000000)], .tup 2 (zT [.str (yq (YX (ZR (α := Big) x_x).neg (ZR (α := Big) x_x).l)), .i (ZZ (YX (ZR (α := Big) x_x).neg (ZR (α := Big) x_x).l))]))
 | _ => none
theorem pX (G : List (Nat × Obj)) (x : Big) (hx : Zv 1000000000 x.l) (ht : zm x.l = x.l) (hl : x.l.length ≤ 100000000) :
 let q1 := (AV.agg 2 fun (i : Nat) => zp.enc x (0 + i)); let q3 := (ZR q1); let q2 := (Big.l q3); let q4 := (bif Big.neg q3 then -zW iB q2 else zW iB q2); zB [AV.agg 2 (zp.enc x)] → bF (ZH Big q1) ((∀ (x_1 : Int), List.Mem x_1 q2 → iZ ≤ x_1 ∧ x_1 < iB) ∧ zm q2 = Big.l q3 ∧ lN q2 ≤ 100000000 ∧ zZ (zn (300 : Int) (lZ (zR (Lib.itoa q4)))) (j2 ∧ (True ∧ bA #[] = yq (YX (Big.neg x) (Big.l x))) ∧ kI ∧ (4
 : Int) = ZZ (YX (Big.neg x) (Big.l x))) (j2 ∧ (True ∧ Lib.itoa q4 = yq (YX (Big.neg x) (Big.l x))) ∧ kI ∧ iZ = ZZ (YX (Big.neg x) (Big.l x)))) := by
 delta bF bA kI j2 lZ lN iZ iB
 dsimp only
 intro hb
 have e0 : (zp.dflt : Int) = 0 := rfl
 simp only [↓ZK, ↓ZT, row_one]
 simp only [sS, dS, e0, qQ, sI]
 refine ⟨hx, ht, hl, fun h => ?_, fun h => ?_⟩
 all_goals
  have hn := LK (YX x.neg x.l)
  unfold YX at hn
  rw [hn] at h
  unfold yq ZZ YX
 ·rw [(zC _ _).2 (show 300 < Vk _ by omega)]
  exact ⟨rfl, rfl, rfl⟩
 ·rw [show Nat.blt 300 (Vk (bif x.neg then - zW 1000000000 x.l else zW 1000000000 x.l)) = false from Bool.eq_false_iff.2 fun e => by have := (zC _ _).1 e; omega]
  exact ⟨rfl, rfl, rfl⟩
theorem nZ {G : List (Nat × Obj)} (hG : zM G) (x : Big) (hx : Zv 1000000000 x.l) (ht : zm x.l = x.l) (hl : x.l.length ≤ 100000000) : zS Tryz.prog G 148 [yx x] (.tup 2 (zT [.str (yq (YX x.neg x.l)), .i (ZZ (YX x.neg x.l))])) :=
 zV (T := ((j5 G).plus 205 tP).plus 44 (xE fun s => .str (zR s))) (an := .auto) mixed (zY.plus (zY.plus (xx hG) (Ls hG)) (zQ.mono SJ)) (Eq.mp (by kernel_rfl) (pX G x hx ht hl))
theorem Oq {G : List (Nat × Obj)} (hG : zM G) : zQ Tryz.prog G 148 VJ := by
 intro xs ps r h hp
 unfold VJ at h
 split at h
 ·skip
  rename_i x_x
  cases h
  obtain ⟨q0, q1, q2, q3, -⟩ := Zx hp
  exact weaken (ys := [yx (ZR (α := Big) x_x)]) ⟨zH q0, trivial⟩ (nZ hG (ZR (α := Big) x_x) q1 q2 q3)
 ·cases h
def Si (xs : List AV) : Option (List zN × AV) :=
 match Sv xs with
 | some r => some r
 | none => Sj xs
theorem LZ : zQ Tryz.prog [] 206 Si := by
 intro xs ps r h hp
 unfold Si at h
 split at h
 ·rename_i r' h'
  cases h
  exact KQ _ _ _ h' hp
 ·exact L1 _ _ _ h hp
noncomputable def G2 : Tb := (T0.plus 206 Si).plus 208 SQ
theorem na : zY Tryz.prog G2 := zY.plus (zY.plus zr LZ) lS
def oY (x y : Big) : Bool := bif x.neg == y.neg then x.neg else bif leB 0 (cmpL x.l y.l) then x.neg else y.neg
def qK (x y : Big) : Int := bif x.neg == y.neg then zW 1000000000 x.l + zW 1000000000 y.l else bif leB 0 (cmpL x.l y.l) then zW 1000000000 x.l - zW 1000000000 y.l else zW 1000000000 y.l - zW 1000000000 x.l
theorem PG {x y : List Int} (hx : Zv 1000000000 x) (hy : Zv 1000000000 y) (tx : zm x = x) (ty : zm y = y) : (0 ≤ cmpL x y ↔ zW 1000000000 y ≤ zW 1000000000 x) := by
 have e1 : x = zw 1000000000 (zW 1000000000 x).toNat := YI (b := 1000000000) (by omega) hx tx
 have e2 : y = zw 1000000000 (zW 1000000000 y).toNat := YI (b := 1000000000) (by omega) hy ty
 have v1 := zj (b := 1000000000) (by omega) hx
 have v2 := zj (b := 1000000000) (by omega) hy
 have c := (Va (b := 1000000000) (by omega) (zW 1000000000 x).toNat (zW 1000000000 y).toNat).1
 rw [← e1, ← e2] at c
 omega
def px : List AV → Option (List zN × AV)
 | [x_x, x_y] => some ([.b (ZH Big x_x), .b (ZH Big x_y), .p (Zv 1000000000 (ZR (α := Big) x_x).l), .p (Zv 1000000000 (ZR (α := Big) x_y).l), .p (zm (ZR (α := Big) x_x).l = (ZR (α := Big) x_x).l), .p (zm (ZR (α := Big) x_y).l = (ZR (α := Big) x_y).l), .p ((ZR (α := Big) x_x).l.length ≤ 1000000000), .p ((ZR (α := Big) x_y).l.length ≤ 1000000000)], .agg 2 (zT [.b (oY (ZR (α := Big) x_x) (ZR (α := Big) x_y)), Zp (zw 1000000000 (qK (ZR (α := Big) x_x) (ZR (α := Big) x_y)).toNat)]))
 | _ => none
theorem Ko (x : Big) (y : Big) (hx : Zv 1000000000 x.l) (hy : Zv 1000000000 y.l) (tx : zm x.l = x.l) (ty : zm y.l = y.l) (lx : x.l.length ≤ 1000000000) (ly : y.l.length ≤ 1000000000) :
 let q2 := (xI (Big.l x)); let q1 := (za Int q2); let q4 := (xI (Big.l y)); let q3 := (za Int q4); let q6 := (zv q2); let q5 := (∀ (x_1 : Int), List.Mem x_1 q6 → iZ ≤ x_1 ∧ x_1 < iB); let q8 := (zv q4); let q7 := (∀ (x : Int), List.Mem x q8 → iZ ≤ x ∧ x < iB); let q9 := (zw 1000000000 (Int.toNat (qK x y))); let q10 := (zw 1000000000 (Int.toNat (zW
 iB q6 + zW iB q8))); let q11 := (zw 1000000000 (Int.toNat (zW iB q6 - zW iB q8))); let q12 := (zw 1000000000 (Int.toNat (zW iB q8 - zW iB q6))); zB [AV.agg 2 (zp.enc x), AV.agg 2 (zp.enc y)] → zZ (Big.neg x == Big.neg y) (bF q1 (bF q3 (q5 ∧ q7 ∧ lN q6 ≤ 1000000000 ∧ lN q8 ≤ 1000000000 ∧ 2 = 2 ∧ Big.neg x = oY x y ∧ (false = true → false = true) ∧ 1 = 1 ∧ lN q9 = lN q10 ∧ ∀ (i j : Nat), i < lN q10 → j < 1 → IntKind.i64 =
 .i64 ∧ gD q10 i zp.dflt = gD q9 i zp.dflt))) (bF q1 (bF q3 (q5 ∧ q7 ∧ zZ (leB iZ (cmpL q6 q8)) (bF q1 (bF q3 (q5 ∧ q7 ∧ lN q6 ≤ 1000000000 ∧ lN q8 ≤ 1000000000 ∧ zW iB q8 ≤ zW iB q6 ∧ 2 = 2 ∧ Big.neg x = oY x y ∧ (false = true → false = true) ∧ 1 = 1 ∧ lN q9 = lN q11 ∧ ∀ (i j : Nat), i < lN q11 → j < 1 → kI ∧ gD q11 i zp.dflt = gD q9 i zp.dflt))) (bF q3 (bF q1 (q7 ∧ q5 ∧ lN q8 ≤ 1000000000 ∧
 lN q6 ≤ 1000000000 ∧ zW iB q6 ≤ zW iB q8 ∧ 2 = 2 ∧ Big.neg y = oY x y ∧ (false = true → false = true) ∧ 1 = 1 ∧ lN q9 = lN q12 ∧ ∀ (i j : Nat), i < lN q12 → j < 1 → kI ∧ gD q12 i zp.dflt = gD q9 i zp.dflt)))))) := by
 delta bF xI kI lN gD iZ iB
 dsimp only
 intro hb
 have e0 : (zp.dflt : Int) = 0 := rfl
 simp only [↓ZK, ↓ZT, row_one]
 simp only [sS, dS, e0]
 refine zu.2 ⟨fun c => ⟨hx, hy, lx, ly, ?_, fun h => h, ?_, fun i j _ _ => ?_⟩, fun c => ⟨hx, hy, fun h => ⟨hx, hy, lx, ly, (PG hx hy tx ty).1 h, ?_, fun h => h, ?_, fun i j _ _ => ?_⟩, fun h => ⟨hy, hx, ly, lx, ?_, ?_, fun h => h, ?_, fun i j _ _ => ?_⟩⟩⟩
 any_goals (unfold oY; rw [c]; first | rfl | (rw [show leB 0 (cmpL x.l y.l) = true from (zF _ _).2 h]; rfl) | (rw [show leB 0 (cmpL x.l y.l) = false from Bool.eq_false_iff.2 fun e => by have := (zF _ _).1 e; omega]; rfl))
 any_goals (unfold qK; rw [c]; first | rfl | (rw [show leB 0 (cmpL x.l y.l) = true from (zF _ _).2 h]; rfl) | (rw [show leB 0 (cmpL x.l y.l) = false from Bool.eq_false_iff.2 fun e => by have := (zF _ _).1 e; omega]; rfl))
 have := PG hx hy tx ty
 omega
theorem Jn (x : Big) (y : Big) (hx : Zv 1000000000 x.l) (hy : Zv 1000000000 y.l) (tx : zm x.l = x.l) (ty : zm y.l = y.l) (lx : x.l.length ≤ 1000000000) (ly : y.l.length ≤ 1000000000) : zS Tryz.prog [] 149 [yx x, yx y] (.agg 2 (zT [.b (oY x y), Zp (zw 1000000000 (qK x y).toNat)])) :=
 zV (T := G2) (an := .auto) mixed na (Eq.mp (by kernel_rfl) (Ko x y hx hy tx ty lx ly))
theorem JN : zQ Tryz.prog [] 149 px := by
 intro xs ps r h hp
 unfold px at h
 split at h
 ·skip
  rename_i x_x x_y
  cases h
  obtain ⟨q0, q1, q2, q3, q4, q5, q6, q7, -⟩ := Zx hp
  exact weaken (ys := [yx (ZR (α := Big) x_x), yx (ZR (α := Big) x_y)]) ⟨zH q0, zH q1, trivial⟩ (Jn (ZR (α := Big) x_x) (ZR (α := Big) x_y) q2 q3 q4 q5 q6 q7)
 ·cases h
theorem mF {x y : Big} (hx : Zv 1000000000 x.l) (hy : Zv 1000000000 y.l) (tx : zm x.l = x.l) (ty : zm y.l = y.l) :
  0 ≤ qK x y ∧ (bif oY x y then - qK x y else qK x y) = YX x.neg x.l + YX y.neg y.l := by
 have v1 := zj (b := 1000000000) (by omega) hx
 have v2 := zj (b := 1000000000) (by omega) hy
 have c := PG hx hy tx ty
 unfold oY qK YX
 cases hl : leB 0 (cmpL x.l y.l) with
 | true =>
  rw [zF, c] at hl
  cases x.neg <;> cases y.neg <;> simp <;> omega
 | false =>
  have hl : ¬ 0 ≤ cmpL x.l y.l := fun e => by rw [(zF _ _).2 e] at hl; cases hl
  rw [c] at hl
  cases x.neg <;> cases y.neg <;> simp <;> omega
end Go.Te
