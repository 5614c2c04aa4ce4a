/- root: the normal form and the ratio of roots, of numbers with few digits. -/
import Derived.Test.YtgpbohfbhfbelaaGreatDoorTkWa
import Derived.Test.YtgpbohfbhfbelaaGreatDoorArQ
import Derived.Test.YtgpbohfbhfbelaaGreatDoorSxS
import Derived.Shelf.Spec.SlicesGrow
import Derived.Test.YtgpbohfbhfbelaaGreatDoorSxJ
import Derived.Test.YtgpbohfbhfbelaaGreatDoorSxU
import Derived.Test.YtgpbohfbhfbelaaGreatDoorProg
import Derived.Test.YtgpbohfbhfbelaaGreatDoorTkS
import Derived.Test.YtgpbohfbhfbelaaGreatDoorArA
import Derived.Test.YtgpbohfbhfbelaaGreatDoorTkI0
set_option linter.unusedSimpArgs false
set_option linter.unusedVariables false
namespace Go.Te
open Go Go.Sx Go.Proofs Go.Ar
set_option maxRecDepth 100000
set_option maxHeartbeats 4000000
structure ep (a : zL) : Prop where
 ok : Xl 90 a
 pos : 0 ≤ ZP a
structure EJ (a : zL) : Prop where
 ok : Xl 90 a
 pos : 0 < ZP a
 len : TA (ZP a).num + Lib.nDigits (ZP a).den ≤ 17
structure EM (p q : zL) : Prop where
 fp : ep p
 fq : ep q
 pos : 0 < ZP q
 num : TA (ZP p / ZP q).num ≤ 17
 den : Lib.nDigits (ZP p / ZP q).den ≤ 17
end Go.Te

namespace Go.Te
open Go Go.Sx Go.Proofs Go.Ar
set_option maxRecDepth 100000
set_option maxHeartbeats 4000000
def JJ (s : zL) : Bool := YA (ZP s) == s
theorem Oy (q : Rat) : JJ (YA q) = true := by unfold JJ; rw [Tt]; exact beq_self_eq_true _
theorem Ln {x : AV} (h : (ZV x && JJ (AV.bytes x)) = true) : zB x (.str (YA (ZP (AV.bytes x)))) := by
 rw [Bool.and_eq_true] at h
 unfold JJ at h
 rw [eq_of_beq h.2]
 exact ZA (Wn h.1)
instance : zi Tm := ⟨2, ⟨0, 0⟩, fun t => zt [.str (YA t.c), .str (YA t.q)], fun cs => ⟨ZP (AV.bytes (cs 0)), ZP (AV.bytes (cs 1))⟩, fun cs => (ZV (cs 0) && JJ (AV.bytes (cs 0))) && (ZV (cs 1) && JJ (AV.bytes (cs 1))), fun cs h j hj => by
 rw [Bool.and_eq_true] at h
 match j, hj with
 | 0, _ => exact Ln h.1
 | 1, _ => exact Ln h.2⟩
instance : xD Tm := ⟨fun c => by
 show (⟨ZP (YA c.c), ZP (YA c.q)⟩ : Tm) = c
 rw [Tt, Tt], fun c => by
 show ((true && JJ (YA c.c)) && (true && JJ (YA c.q))) = true
 rw [Oy, Oy]; rfl⟩
structure Ec (x y : Tm) : Prop where
 ra : EM (YA y.q) (YA x.q)
 rel : ux y.q x.q = true
 cx : bq 100 x.c
 cy : bq 100 y.c
end Go.Te

namespace Go.Te
open Go Go.Sx Go.Proofs Go.Ar
set_option maxRecDepth 100000
def vw : Array Value := #[.int .i64 4, .int .i64 16, .int .i64 64]
def XL (G : List (Nat × Obj)) : Prop := zh G ∧ ∃ t fr t2 fr2 G', G = (1, Obj.cells Xj t fr) :: (0, Obj.cells vw t2 fr2) :: G'
theorem XL.tab {G : List (Nat × Obj)} (h : XL G) : zh G := h.1
end Go.Te

namespace Go.Te
open Go Go.Sx Go.Proofs Go.Ar
set_option maxRecDepth 100000
set_option maxHeartbeats 4000000
end Go.Te

namespace Go.Te
open Go Go.Sx Go.Proofs Go.Ar
set_option maxRecDepth 100000
set_option maxHeartbeats 4000000
theorem jn (G : List (Nat × Obj)) (a : List UInt8) (b : List UInt8) (hla : a.length ≤ 4294967280) (hlb : b.length ≤ 4294967280) :
 ZY [AV.str a, AV.str b] → lN a ≤ nM ∧ lN b ≤ nM ∧ YR (fun (x1 x2 : Int) => x1 * x2) a b = YR (fun (x1 x2 : Int) => x1 * x2) a b := by
 delta nM lN
 intro hb
 simp only [sS, dS]
 exact ⟨hla, hlb⟩
theorem Ih {G : List (Nat × Obj)} (hG : zh G) (a : List UInt8) (b : List UInt8) (hla : a.length ≤ 4294967280) (hlb : b.length ≤ 4294967280) : zT Tryz.prog G 151 [.str a, .str b] (.str (YR (· * ·) a b)) :=
 zU (T := (Vw G).plus 43 vI) (an := .auto) mixed (zZ.plus zq (Tf hG)) (Eq.mp (by kernel_rfl) (jn G a b hla hlb))
theorem jq (G : List (Nat × Obj)) (a : List UInt8) (b : List UInt8) (hla : a.length ≤ 4294967280) (hlb : b.length ≤ 4294967280) :
 ZY [AV.str a, AV.str b] → lN a ≤ nM ∧ lN b ≤ nM ∧ j2 ∧ (True ∧ yF a b = yF a b) ∧ vo a b = vo a b := by
 delta nM j2 lN
 intro hb
 simp only [sS, dS]
 exact ⟨hla, hlb, rfl⟩
theorem iF {G : List (Nat × Obj)} (hG : zh G) (a : List UInt8) (b : List UInt8) (hla : a.length ≤ 4294967280) (hlb : b.length ≤ 4294967280) : zT Tryz.prog G 205 [.str a, .str b] (.tup 2 (zt [.str (yF a b), .str (vo a b)])) :=
 zU (T := (Vw G).plus 104 tw) (an := .auto) mixed (zZ.plus zq (QG hG)) (Eq.mp (by kernel_rfl) (jq G a b hla hlb))
structure EC (x : Pt) : Prop where
 n : x.n.length ≤ 4294967280
 d : x.d.length ≤ 4294967280
structure Eb (q u : zL) : Prop where
 fq : Xl 60 q
 fu : Xl 60 u
 pq : 0 ≤ ZP q
 pu : 0 < ZP u
 out : bq 140 (Eh (ZP q) (ZP u) : Rat)
end Go.Te

namespace Go.Te
open Go Go.Sx Go.Proofs Go.Ar
set_option maxRecDepth 100000
set_option maxHeartbeats 4000000
def FM (k : Nat) (q : Rat) : Bool := Nat.blt q.num.natAbs (10 ^ k) && Nat.blt q.den (10 ^ k)
theorem Ig {k : Nat} {q : Rat} (h : FM k q = true) : bq k q := by
 unfold FM at h
 rw [Bool.and_eq_true] at h
 exact ⟨Nat.le_of_ble_eq_true h.1, Nat.le_of_ble_eq_true h.2⟩
def nn (k : Nat) (a : zL) : Bool := zN a == 0 && FM k (ZP a)
theorem UG {k : Nat} {a : zL} (h : nn k a = true) : Xl k a := by
 unfold nn at h
 rw [Bool.and_eq_true, beq_iff_eq] at h
 exact ⟨h.1, Ig h.2⟩
def Ye (c : zL → zL → Bool) (r : zL → zL → AV) : List AV → Option (List zn × AV)
 | [.str a, .str b] => some ([.b (c a b)], r a b)
 | _ => none
theorem xf {G : List (Nat × Obj)} {f : FuncId} {c : zL → zL → Bool} {r : zL → zL → AV} (h : ∀ a b, c a b = true → zT Tryz.prog G f [.str a, .str b] (r a b)) : zQ Tryz.prog G f (Ye c r) := by
 intro xs ps r' e hp
 unfold Ye at e
 split at e
 ·cases e
  exact h _ _ (hp _ List.mem_cons_self)
 ·cases e
def Wq (c : zL → Bool) (r : zL → AV) : List AV → Option (List zn × AV)
 | [.str a] => some ([.b (c a)], r a)
 | _ => none
theorem uF {G : List (Nat × Obj)} {f : FuncId} {c : zL → Bool} {r : zL → AV} (h : ∀ a, c a = true → zT Tryz.prog G f [.str a] (r a)) : zQ Tryz.prog G f (Wq c r) := by
 intro xs ps r' e hp
 unfold Wq at e
 split at e
 ·cases e
  exact h _ (hp _ List.mem_cons_self)
 ·cases e
def ip (a b : zL) : Bool := nn 140 a && nn 140 b
theorem uq {a b : zL} (h : ip a b = true) : QK 140 a b := by
 unfold ip at h
 rw [Bool.and_eq_true] at h
 exact ⟨UG h.1, UG h.2⟩
def eV (a b : zL) : Bool := ip a b && decide (ZP b ≠ 0)
theorem I8 {a b : zL} (h : eV a b = true) : ER a b := by
 unfold eV at h
 rw [Bool.and_eq_true, decide_eq_true_iff] at h
 exact ⟨(uq h.1).1, (uq h.1).2, h.2⟩
def je (a b : zL) : Bool := Nat.ble a.length 1000 && Nat.ble b.length 1000
theorem YC {a b : zL} (h : je a b = true) : a.length ≤ 4294967280 ∧ b.length ≤ 4294967280 := by
 unfold je at h
 rw [Bool.and_eq_true] at h
 have h1 := Nat.le_of_ble_eq_true h.1
 have h2 := Nat.le_of_ble_eq_true h.2
 omega
def Fy (r n : Nat) : Nat := bif Nat.ble ((2 * r + 1) * (2 * r + 1)) n then 2 * r + 1 else 2 * r
def fA : Nat → Nat → Nat
 | 0, _ => 0
 | k + 1, n => Fy (fA k (n / 4)) n
theorem L5 : ∀ (k n : Nat), fA k n = Xa k n
 | 0, _ => rfl
 | k + 1, n => by
  show Fy (fA k (n / 4)) n = _
  rw [L5 k (n / 4)]
  unfold Fy
  show _ = if (2 * Xa k (n / 4) + 1) * (2 * Xa k (n / 4) + 1) ≤ n then 2 * Xa k (n / 4) + 1 else 2 * Xa k (n / 4)
  by_cases h : (2 * Xa k (n / 4) + 1) * (2 * Xa k (n / 4) + 1) ≤ n
  ·rw [if_pos h, Nat.ble_eq_true_of_le h]; rfl
  ·rw [if_neg h]
   cases hb : Nat.ble ((2 * Xa k (n / 4) + 1) * (2 * Xa k (n / 4) + 1)) n with
   | true => exact absurd (Nat.le_of_ble_eq_true hb) h
   | false => rfl
def Ey (a : zL) : Bool := zC a && leB 0 (zV a) && Nat.ble a.length 216 && Nat.blt (zV a).toNat (2 ^ 240)
theorem gq {G : List (Nat × Obj)} {f : FuncId} {c : zL → zL → Prop} {r : zL → zL → AV} (h : zQ Tryz.prog G f (Ut c r)) {a b : zL} (hc : c a b) : zT Tryz.prog G f [.str a, .str b] (r a b) :=
 h _ _ _ rfl fun p hp => by rw [List.mem_singleton] at hp; rw [hp]; exact hc
noncomputable def eQ (G : List (Nat × Obj)) : Tb := (((((Vw G).plus 47 (Ye je fun a b => .tup 2 (zt [.str (YR (· + ·) a b), .i (yI (· + ·) a b)]))).plus 49 (Ye je fun a b => .tup 2 (zt [.str (YR (· - ·) a b), .i (yI (· - ·) a b)]))).plus 43 (Ye je fun a b => .tup 2 (zt [.str (YR (· * ·) a b), .i (yI (· * ·) a b)]))).plus 34 (Ye je fun a b => .tup 2 (zt [.i (x3 a b), .i (zI a b)]))).plus 104 (Ye je fun a b => .tup 3 (zt [.str (yF a b), .str (vo a b), .i (xe a b)]))
 |>.plus 152 (Wq Ey fun a => .tup 2 (zt [.str (Lib.itoa (fA 120 (zV a).toNat)), .i 0]))
theorem nQ {G : List (Nat × Obj)} (hG : zh G) : zZ Tryz.prog (eQ G) :=
 zZ.plus (zZ.plus (zZ.plus (zZ.plus (zZ.plus (zZ.plus zq (xf fun a b h => lD hG a b (YC h).1 (YC h).2)) (xf fun a b h => kx hG a b (YC h).1 (YC h).2)) (xf fun a b h => Mw hG a b (YC h).1 (YC h).2)) (xf fun a b h => LX hG a b (YC h).1 (YC h).2)) (xf fun a b h => Mt hG a b (YC h).1 (YC h).2)) (uF fun a h => by
  unfold Ey at h
  simp only [Bool.and_eq_true, ze] at h
  obtain ⟨s1, s2⟩ := Wd 120 (zV a).toNat (Nat.lt_of_lt_of_le (Nat.le_of_ble_eq_true h.2) (by decide))
  rw [L5, rF s1 s2]
  exact gC hG a h.1.1.1 h.1.1.2 (Nat.le_of_ble_eq_true h.1.2))
noncomputable def Ew (G : List (Nat × Obj)) : Tb := (((((((eQ G).plus 19 (Ye ip (JF (· + ·)))).plus 20 (Ye ip (JF (· - ·)))).plus 18 (Ye ip (JF (· * ·)))).plus 164 (Ye eV (JF (· / ·)))).plus 12 (Ye ip fun a b => .tup 2 (zt [.i (Yg (ZP a) (ZP b)), .i 0]))).plus 29 (Wq (nn 140) fun _ => .i 0)).plus 155 (Wq (fun a => Nat.ble a.length 1000) fun a => .tup 3 (zt [.str (bif zN a == 0 then zp a else []), .str (bif zN a == 0 then Zm a else []), .i (zN a)]))
 |>.plus 206 (Wq (nn 140) fun a => .tup 2 (zt [.str (Lib.itoa (Kf (ZP a))), .i 0]))
theorem nz {G : List (Nat × Obj)} (hG : zh G) : zZ Tryz.prog (Ew G) :=
 zZ.plus (zZ.plus (zZ.plus (zZ.plus (zZ.plus (zZ.plus (zZ.plus (zZ.plus (nQ hG) (xf fun a b h => gq (Ho hG) (uq h))) (xf fun a b h => gq (iD hG) (uq h))) (xf fun a b h => gq (It hG) (uq h))) (xf fun a b h => gq (iP hG) (I8 h))) (xf fun a b h => gq (RQ hG) (uq h))) (uF fun a h => lU hG _ _ _ rfl fun p hp => by rw [List.mem_singleton] at hp; rw [hp]; exact (UG h).mono (by decide)))
  (uF fun a h => Js hG a (by have := Nat.le_of_ble_eq_true h; omega))) (uF fun a h => IR hG a (UG h))
def pW : List AV → Option (List zn × AV)
 | [.str s, .v (.int .i64 k)] => some ([.b (s == [48] && (leB 0 k && leB k 1000000))], .str (List.replicate k.toNat 48))
 | _ => none
theorem IL : zQ Tryz.prog [] 89 pW := by
 intro xs ps r h hp
 unfold pW at h
 split at h
 ·rename_i s k
  cases h
  have q : (s == [48] && (leB 0 k && leB k 1000000)) = true := hp _ List.mem_cons_self
  simp only [Bool.and_eq_true, ze] at q
  refine NB _ _ _ rfl fun p hp => ?_
  rcases List.mem_cons.1 hp with rfl | hp
  ·exact q.1
  ·obtain rfl := List.mem_singleton.1 hp
   exact q.2
 ·cases h
def Rw : List AV → Option (List zn × AV)
 | [.v (.int .i64 n)] => some ([.b (leB (-1000000000000000000) n && leB n 1000000000000000000)], .str (Lib.itoa n))
 | _ => none
theorem K0 {G : List (Nat × Obj)} (hG : zh G) : zQ Tryz.prog G 99 Rw := by
 intro xs ps r h hp
 unfold Rw at h
 split at h
 ·rename_i n
  cases h
  have q : (leB (-1000000000000000000) n && leB n 1000000000000000000) = true := hp _ List.mem_cons_self
  simp only [Bool.and_eq_true, ze] at q
  refine MA hG _ _ _ rfl fun p hp => ?_
  rw [List.mem_singleton] at hp
  rw [hp]
  show Y1 .i64 n
  simp only [Y1]
  omega
 ·cases h
def o8 := Wq (fun s => zC s && Nat.ble s.length 18) fun s => .tup 2 (zt [.i (zV s), .v .nilIface])
theorem KW : zQ Tryz.prog [] 134 o8 := uF fun s h => by
 rw [Bool.and_eq_true] at h
 refine PY _ _ _ rfl fun p hp => ?_
 rcases List.mem_cons.1 hp with rfl | hp
 ·exact h.1
 ·obtain rfl := List.mem_singleton.1 hp
  exact Nat.le_of_ble_eq_true h.2
noncomputable def gB (G : List (Nat × Obj)) : Tb := ((((Ew G).plus 89 pW).plus 99 Rw).plus 134 o8).plus 83 (YF fun s => .str (zu s)) |>.plus 102 (YF fun s => .b (zG s)) |>.plus 224 RH |>.plus 151 (Ye je fun a b => .str (YR (· * ·) a b)) |>.plus 205 (Ye je fun a b => .tup 2 (zt [.str (yF a b), .str (vo a b)]))
theorem W4 {G : List (Nat × Obj)} (hG : zh G) : zZ Tryz.prog (gB G) := zZ.plus (zZ.plus (zZ.plus (zZ.plus (zZ.plus (zZ.plus (zZ.plus (zZ.plus (nz hG) (zQ.mono IL)) (K0 hG)) (zQ.mono KW)) (zQ.mono Ui)) (zQ.mono Mv)) (zQ.mono lI)) (xf fun a b h => Ih hG a b (YC h).1 (YC h).2)) (xf fun a b h => iF hG a b (YC h).1 (YC h).2)
end Go.Te

namespace Go.Proofs
open Go.Shelf
def Tryz.growCut_ren : Go.Shelf.Ren := ⟨fun | 4 => 215 | n => n, fun | 22 => 42 | 25 => 40 | 3 => 3 | 4 => 4 | 9 => 9 | 20 => 20 | 0 => 0 | n => n, fun | n => n⟩
theorem Tryz.growCut : Go.Proofs.Lays8.n4 Tryz.prog Tryz.growCut_ren := {
 mixed := by kernel_rfl
 f4 := ⟨Tryz.f215.name, by decide, Tryz.func215.trans (congrArg some (by kernel_rfl))⟩
 t0 := Tryz.underlying0
 a0 := Tryz.isAgg0
 z0 := Tryz.sizeOf0
 v0 := Tryz.zeroValue0
 t3 := Tryz.underlying3
 a3 := Tryz.isAgg3
 z3 := Tryz.sizeOf3
 v3 := Tryz.zeroValue3
 t4 := Tryz.underlying4
 a4 := Tryz.isAgg4
 z4 := Tryz.sizeOf4
 v4 := Tryz.zeroValue4
 t9 := Tryz.underlying9
 a9 := Tryz.isAgg9
 z9 := Tryz.sizeOf9
 v9 := Tryz.zeroValue9
 t20 := Tryz.underlying20
 a20 := Tryz.isAgg20
 z20 := Tryz.sizeOf20
 v20 := Tryz.zeroValue20
 t22 := Tryz.underlying42
 a22 := Tryz.isAgg42
 z22 := Tryz.sizeOf42
 v22 := Tryz.zeroValue42 }
end Go.Proofs
namespace Go.Te
open Go Go.Sx Go.Proofs Go.RowKit Go.Shelf
set_option maxHeartbeats 4000000
set_option maxRecDepth 100000
def OP (nb : Nat) (bl : Nat → OB) (xs : List AV) (K : Nat → (Nat → OB) → AV → Prop) : Prop :=
 match xs with
 | [.v (.slice none 0 0), .v (.int .i64 n)] => (0 ≤ n ∧ n ≤ 100000) ∧ K (nb + 1) (upd bl nb (.arr 40 2 0 fun _ _ => .junk)) (.ns nb 0 0)
 | _ => ZH xs
theorem m6 (bl : Nat → OB) (nb : Nat) : upd bl nb (.arr 40 2 (0 + 0) fun a b => if a < 0 then AV.junk else AV.junk) = upd bl nb (.arr 40 2 0 fun _ _ => .junk) := by
 congr 2
theorem m9 (G : List (Nat × Obj)) : TY Tryz.prog G 215 OP := by
 refine ⟨enters_of Tryz.func215 (by kernel_rfl) rfl, ?_, ?_⟩
 ·intro nb bl xs k k' hk h
  unfold OP at h ⊢
  split at h
  ·exact ⟨h.1, hk _ _ _ h.2⟩
  ·exact h
 ·intro E nb bl S ρ w xs vs k _ hM hx h
  unfold OP at h
  split at h
  ·rename_i n
   obtain ⟨hn, hk⟩ := h
   match vs, hx with
   | [v, v2], ⟨hv, hv2, _⟩ =>
   obtain rfl := ZW hv
   obtain rfl := ZW hv2
   obtain ⟨m, rfl⟩ : ∃ m : Nat, n = m := ⟨n.toNat, by omega⟩
   have fin : ∀ (w' : World) (v' : Value), U6 w w' 40 2 0 0 (.slice none 0 0) v' (fun _ _ => undef) (fun _ _ => undef) none →
     ∃ nb' bl' S' ρ' x rv, (Ending.returned v') = .returned rv ∧ k nb' bl' x ∧ Mem E nb' bl' S' ρ' w' ∧ (∀ b, S b → S' b ∧ w'.heap[b]? = w.heap[b]?) ∧ zf ρ ρ' ∧ zF w' S' ρ' x rv := fun w' v' hA => by
    obtain ⟨o, m1, m2, m3, m4⟩ := X3 (els := fun _ _ => .junk) (src := fun _ _ => .junk) hM hA (fun g hg => by cases hg) (fun i j hi => absurd hi (Nat.not_lt_zero _)) (fun i j hi => absurd hi (Nat.not_lt_zero _))
    rw [m6] at m1
    exact ⟨_, _, S, _, _, _, rfl, hk, m1, m3, m2, m4⟩
   by_cases h0 : m = 0
   ·subst h0
    refine (show Calls Tryz.prog 215 _ _ _ from Any8.slices_Grow_room Tryz.growCut none 0 0 0 w (Nat.le_refl _) (by omega) (by omega) (by omega)).mono ?_
    rintro e w' ⟨rfl, rfl⟩
    exact fin _ _ ⟨rfl, rfl, rfl, Nat.le_refl _, Nat.le_refl _, .inl ⟨none, rfl, rfl, rfl⟩⟩
   ·obtain ⟨i, hi, hz, hs, hby⟩ : ∃ i : TypeInfo, Tryz.prog.info? 40 = some i ∧ (∃ z, i.zero = some z ∧ z.cells.size = 2) ∧ i.size = 2 ∧ i.bytes = 32 := by
     refine ⟨_, rfl, ⟨_, rfl, ?_⟩, ?_, ?_⟩ <;> kernel_rfl
    obtain ⟨z, hz1, hz2⟩ := hz
    refine (show Calls Tryz.prog 215 _ _ _ from Any8.slices_Grow_grow Tryz.growCut i z hi hz1 (by omega) none 0 0 m [] w (Nat.le_refl _) (by omega) (by rw [hby]; omega) (by omega) (by simp) (fun _ => rfl) (fun a ha => by cases ha)).mono ?_
    rintro e w' ⟨rfl, rfl⟩
    refine fin _ _ ?_
    refine ⟨rfl, rfl, rfl, by simp, se w 1, .inr ⟨w.heap.size, _, _, rfl, .inl rfl, Nat.zero_le _, ?_, heap_alloc_new w.drew _, ?_, fun b hb _ => heap_alloc_old w.drew _ hb, fun i j hi => absurd hi (Nat.not_lt_zero _), fun i j hi => absurd hi (Nat.not_lt_zero _)⟩⟩
    ·exact grownCap_le_maxLen w _ 0 40 (by unfold maxLen; omega)
    ·have hg := grownCap_ge w (0 + m) 0 40
     simp only [Array.size_append, List.size_toArray, List.length_nil, size_zeroCells, hz2, ← Nat.add_mul, Nat.zero_add]
     show (m - 0 + (grownCap w m 0 40 - m)) * 2 = grownCap w m 0 40 * 2
     rw [Nat.zero_add] at hg
     congr 1
     omega
  ·exact h.elim
end Go.Te

namespace Go.Te
open Go Go.Sx Go.Proofs Go.Ar
set_option maxRecDepth 100000
set_option maxHeartbeats 4000000
noncomputable def FK (G : List (Nat × Obj)) : Tb := Tb.deepX Tryz.prog (gB G) [] 10
theorem Sj {G : List (Nat × Obj)} (hG : zh G) : zZ Tryz.prog (FK G) := zZ.deepX mixed (W4 hG) _ _
def KP (c l : zL) : AV → Bool
 | .tup 3 vs => (match vs 0 with | .str s => s == c | _ => false) && (match vs 1 with | .str s => s == l | _ => false) && (match vs 2 with | .v (.int .i64 n) => n == 0 | _ => false)
 | _ => false
theorem qD {c l : zL} (x : AV) (h : KP c l x = true) : zB x (.tup 3 (zt [.str c, .str l, .i 0])) := by
 unfold KP at h
 split at h
 ·rename_i vs
  simp only [Bool.and_eq_true] at h
  obtain ⟨⟨h1, h2⟩, h3⟩ := h
  refine ⟨rfl, UL fun i hi => ?_⟩
  match i, hi with
  | 0, _ =>
   show zB (vs 0) (.str c)
   split at h1
   ·rename_i s e
    rw [e, eq_of_beq h1]
    exact zr _
   ·cases h1
  | 1, _ =>
   show zB (vs 1) (.str l)
   split at h2
   ·rename_i s e
    rw [e, eq_of_beq h2]
    exact zr _
   ·cases h2
  | 2, _ =>
   show zB (vs 2) (.i 0)
   split at h3
   ·rename_i s e
    rw [e, eq_of_beq h3]
    exact zr _
   ·cases h3
 ·cases h
def G5 (G : List (Nat × Obj)) (t t2 : TypeId) (fr fr2 : Nat × Nat) : List (Nat × Obj) := (1, Obj.cells Xj t fr) :: (0, Obj.cells vw t2 fr2) :: G
theorem kg (G : List (Nat × Obj)) (t t2 : TypeId) (fr fr2 : Nat × Nat) :
 True := by
 trivial
theorem kS (G : List (Nat × Obj)) (t t2 : TypeId) (fr fr2 : Nat × Nat) :
 True := by
 trivial
def oO := Wq (fun s => s == [50] || s == [51]) fun s => .tup 3 (zt [.str [49], .str s, .i 0])
theorem M3 {G : List (Nat × Obj)} (hG : XL G) : zQ Tryz.prog G 184 oO := uF fun s h => by
 have ht := hG.1
 obtain ⟨_, t, fr, t2, fr2, G', rfl⟩ := hG
 rw [Bool.or_eq_true] at h
 rcases h with h | h
 ·rw [eq_of_beq h]
  exact xg mixed (Sj ht) qD (Eq.mp (by kernel_rfl) (kg G' t t2 fr fr2) : uC Tryz.prog (FK (G5 G' t t2 fr fr2)) 184 .auto [.str [50]] (KP [49] [50]))
 ·rw [eq_of_beq h]
  exact xg mixed (Sj ht) qD (Eq.mp (by kernel_rfl) (kS G' t t2 fr fr2) : uC Tryz.prog (FK (G5 G' t t2 fr fr2)) 184 .auto [.str [51]] (KP [49] [51]))
def Eu : List AV → Bool
 | [.v (.slice none 0 0), .v (.int .i64 n)] => leB 0 n && leB n 100000
 | _ => false
def QU (nb : Nat) (bl : Nat → OB) (xs : List AV) (K : Nat → (Nat → OB) → AV → Prop) : Prop :=
 match Eu xs with
 | true => K (nb + 1) (upd bl nb (.arr 40 2 0 fun _ _ => .junk)) (.ns nb 0 0)
 | false => ZH xs
theorem nA {nb : Nat} {bl : Nat → OB} {xs : List AV} {K : Nat → (Nat → OB) → AV → Prop} (h : QU nb bl xs K) : OP nb bl xs K := by
 unfold QU at h
 split at h
 ·rename_i e
  unfold Eu at e
  split at e
  ·rw [Bool.and_eq_true, ze, ze] at e
   exact ⟨e, h⟩
  ·cases e
 ·exact h.elim
theorem Of (G : List (Nat × Obj)) : TY Tryz.prog G 215 QU := by
 obtain ⟨a, _, c⟩ := m9 G
 refine ⟨a, fun nb bl xs k k' hk h => ?_, fun E nb bl S ρ w xs vs k h1 h2 h3 h => c E nb bl S ρ w xs vs k h1 h2 h3 (nA h)⟩
 unfold QU at h ⊢
 split at h
 ·exact hk _ _ _ h
 ·exact h
noncomputable def Uq (G : List (Nat × Obj)) : Tb := Tb.deepX Tryz.prog (Tb.own1 ((gB G).plus 184 oO) 215 QU) [215] 12
theorem ZT {G : List (Nat × Obj)} (hG : XL G) : zZ Tryz.prog (Uq G) := zZ.deepX mixed (zZ.own1 (zZ.plus (W4 hG.tab) (M3 hG)) (Of G)) _ _
end Go.Te

namespace Go.Te
open Go Go.Sx Go.Proofs Go.Ar
set_option maxRecDepth 100000
set_option maxHeartbeats 4000000
inductive Lt
 | s (l : List Tm)
 | t (a : zL)
 | n (i : Int)
 | r (p : Pt)
def Lt.av : Lt → AV
 | .s l => ZF l
 | .t a => .str a
 | .n i => .i i
 | .r p => yw p
def Lt.is : Lt → AV → Bool
 | .s l, x => Zy Tm x && decide (So (α := Tm) x = l)
 | .t a, .str b => b == a
 | .n i, .v (.int .i64 m) => m == i
 | .r p, x => yZ Pt x && ((Zi (α := Pt) x).n == p.n && (Zi (α := Pt) x).d == p.d)
 | _, _ => false
theorem Lt.is_avM {l : Lt} {x : AV} (h : l.is x = true) : zB x l.av := by
 unfold Lt.is at h
 split at h
 ·rw [Bool.and_eq_true, decide_eq_true_iff] at h
  exact h.2 ▸ za h.1
 ·rw [eq_of_beq h]; exact zr _
 ·rw [eq_of_beq h]; exact zr _
 ·rename_i p
  rw [Bool.and_eq_true, Bool.and_eq_true] at h
  have e : Zi (α := Pt) x = p := by
   obtain ⟨_, h1, h2⟩ := h
   have h1 := eq_of_beq h1
   have h2 := eq_of_beq h2
   cases p
   cases e2 : Zi (α := Pt) x
   rw [e2] at h1 h2
   obtain rfl : _ = _ := h1
   obtain rfl : _ = _ := h2
   rfl
  exact e ▸ zc h.1
 ·cases h
def GV : List Lt → List AV → Bool
 | [], [] => true
 | l :: ls, x :: xs => l.is x && GV ls xs
 | _, _ => false
theorem oH : ∀ {ls : List Lt} {xs : List AV}, GV ls xs = true → nu xs (ls.map Lt.av)
 | [], [], _ => trivial
 | l :: ls, x :: xs, h => by
  unfold GV at h
  rw [Bool.and_eq_true] at h
  exact ⟨Lt.is_avM h.1, oH h.2⟩
def Yc (l : List (List Lt × AV)) (xs : List AV) : Option (List zn × AV) :=
 match l.find? (fun p => GV p.1 xs) with
 | some p => some ([], p.2)
 | none => none
theorem fO {G : List (Nat × Obj)} {f : FuncId} {l : List (List Lt × AV)} (h : ∀ p ∈ l, zT Tryz.prog G f (p.1.map Lt.av) p.2) : zQ Tryz.prog G f (Yc l) := by
 intro xs ps r e _
 unfold Yc at e
 split at e
 ·rename_i p hp
  cases e
  exact weaken (oH (List.find?_some (p := fun p : List Lt × AV => GV p.1 xs) hp)) (h p (List.mem_of_find?_eq_some hp))
 ·cases e
def Lt.res (l : Lt) : AV := .tup 2 (zt [l.av, .i 0])
def Lt.chk (l : Lt) : AV → Bool
 | .tup 2 vs => l.is (vs 0) && (match vs 1 with | .v (.int .i64 m) => m == 0 | _ => false)
 | _ => false
theorem Lt.chk_avM {l : Lt} (x : AV) (h : l.chk x = true) : zB x l.res := by
 unfold Lt.chk at h
 split at h
 ·rename_i vs
  rw [Bool.and_eq_true] at h
  refine ⟨rfl, UL fun i hi => ?_⟩
  match i, hi with
  | 0, _ => exact Lt.is_avM h.1
  | 1, _ =>
   show zB (vs 1) (.i 0)
   have h3 := h.2
   split at h3
   ·rename_i m hm
    rw [hm, eq_of_beq h3]
    exact zr _
   ·cases h3
 ·cases h
abbrev eS (D : Tb) (f : FuncId) (p : List Lt × Lt) : Prop := uC Tryz.prog D f .auto (p.1.map Lt.av) p.2.chk
abbrev Yt (D : List (Nat × Obj) → Tb) (f : FuncId) (p : List Lt × Lt) : Prop := ∀ (G : List (Nat × Obj)) (t t2 : TypeId) (fr fr2 : Nat × Nat), eS (D (G5 G t t2 fr fr2)) f p
theorem H8 {D : Tb} {f : FuncId} (hD : zZ Tryz.prog D) {p : List Lt × Lt} (h : eS D f p) : zT Tryz.prog D.objs f (p.1.map Lt.av) p.2.res := xg mixed hD Lt.chk_avM h
abbrev told (l : List (List Lt × Lt)) : List (List Lt × AV) := l.map fun p => (p.1, p.2.res)
theorem WN {G : List (Nat × Obj)} {f : FuncId} {l : List (List Lt × Lt)} (h : ∀ p ∈ l, ∃ D, zZ Tryz.prog D ∧ D.objs = G ∧ eS D f p) : zQ Tryz.prog G f (Yc (told l)) := fO fun q hq => by
 obtain ⟨p, hp, rfl⟩ := List.mem_map.1 hq
 obtain ⟨D, hD, hO, hr⟩ := h p hp
 exact hO ▸ H8 hD hr
abbrev two : List Tm := [⟨1, 2⟩]
abbrev three : List Tm := [⟨1, 3⟩]
abbrev half : List Tm := [⟨1 / 2, 1⟩]
-- runs
abbrev G2 : Prop := (True ∧ True) ∧ True
theorem Px : G2 := by simp only [G2, and_self]
def Jb : List Lt × Lt := ([.s two, .s three], .n (-1))
theorem FP : Yt Uq 70 Jb := fun _ _ _ _ _ => Eq.mp (by kernel_rfl) Px
def GW := [Jb]
theorem fx {G : List (Nat × Obj)} (hG : XL G) : zQ Tryz.prog G 70 (Yc (told GW)) := by
 have hG := hG
 obtain ⟨_, t, fr, t2, fr2, G, rfl⟩ := id hG
 exact WN (List.forall_mem_cons.2 ⟨⟨_, ZT hG, rfl, FP G t t2 fr fr2⟩, fun _ h => nomatch h⟩)
abbrev fl : Prop := let q1 := (((True ∧ True) ∧ True) ∧ (((True ∧ True) ∧ True) ∧ True) ∧ True ∧ True); ((True ∧ True) ∧ True) ∧ q1 ∧ q1 ∧ True ∧ (True ∧ True) ∧ True ∧ True
theorem uT : fl := by simp only [fl, and_self]
def JM : List Lt × Lt := ([.t [50], .t [49, 47, 49, 48, 48, 48, 48, 48, 48]], .t [49, 52, 49, 52, 50, 49, 51, 47, 49, 48, 48, 48, 48, 48, 48])
theorem FN : Yt Uq 36 JM := fun _ _ _ _ _ => Eq.mp (by kernel_rfl) uT
def JN : List Lt × Lt := ([.t [49, 47, 52], .t [49, 47, 49, 48, 48, 48, 48]], .t [49, 47, 50])
theorem FB : Yt Uq 36 JN := fun _ _ _ _ _ => Eq.mp (by kernel_rfl) uT
def J1 : List Lt × Lt := ([.t [50], .t [49, 47, 49, 48, 48, 48]], .t [55, 48, 55, 47, 53, 48, 48])
theorem Fh : Yt Uq 36 J1 := fun _ _ _ _ _ => Eq.mp (by kernel_rfl) uT
def Je : List Lt × Lt := ([.t [51], .t [49, 47, 49, 48, 48, 48]], .t [52, 51, 51, 47, 50, 53, 48])
theorem Fo : Yt Uq 36 Je := fun _ _ _ _ _ => Eq.mp (by kernel_rfl) uT
def J7 : List Lt × Lt := ([.t [50], .t [49, 47, 49, 48, 48, 48, 48]], .t [55, 48, 55, 49, 47, 53, 48, 48, 48])
theorem eR : Yt Uq 36 J7 := fun _ _ _ _ _ => Eq.mp (by kernel_rfl) uT
def J3 : List Lt × Lt := ([.t [51], .t [49, 47, 49, 48, 48, 48, 48]], .t [52, 51, 51, 47, 50, 53, 48])
theorem eu : Yt Uq 36 J3 := fun _ _ _ _ _ => Eq.mp (by kernel_rfl) uT
def fL := [JM, JN, J1, Je, J7, J3]
theorem GX {G : List (Nat × Obj)} (hG : XL G) : zQ Tryz.prog G 36 (Yc (told fL)) := by
 have hG := hG
 obtain ⟨_, t, fr, t2, fr2, G, rfl⟩ := id hG
 exact WN (List.forall_mem_cons.2 ⟨⟨_, ZT hG, rfl, FN G t t2 fr fr2⟩, List.forall_mem_cons.2 ⟨⟨_, ZT hG, rfl, FB G t t2 fr fr2⟩, List.forall_mem_cons.2 ⟨⟨_, ZT hG, rfl, Fh G t t2 fr fr2⟩, List.forall_mem_cons.2 ⟨⟨_, ZT hG, rfl, Fo G t t2 fr fr2⟩, List.forall_mem_cons.2 ⟨⟨_, ZT hG, rfl, eR G t t2 fr fr2⟩, List.forall_mem_cons.2 ⟨⟨_, ZT hG, rfl, eu G t t2 fr fr2⟩, fun _ h => nomatch h⟩⟩⟩⟩⟩⟩)
end Go.Te

namespace Go.Te
open Go Go.Sx Go.Proofs Go.Ar
set_option maxRecDepth 100000
set_option maxHeartbeats 4000000
-- runs
abbrev fv : Prop := True ∧ True
theorem Mc : fv := by simp only [fv, and_self]
def iu : List Lt × Lt := ([.s [], .s two], .n (-1))
theorem F3 : Yt Uq 70 iu := fun _ _ _ _ _ => Eq.mp (by kernel_rfl) Mc
def JK : List Lt × Lt := ([.s [], .s three], .n (-1))
theorem FY : Yt Uq 70 JK := fun _ _ _ _ _ => Eq.mp (by kernel_rfl) Mc
def gP := [iu, JK]
theorem Gn {G : List (Nat × Obj)} (hG : XL G) : zQ Tryz.prog G 70 (Yc (told gP)) := by
 have hG := hG
 obtain ⟨_, t, fr, t2, fr2, G, rfl⟩ := id hG
 exact WN (List.forall_mem_cons.2 ⟨⟨_, ZT hG, rfl, F3 G t t2 fr fr2⟩, List.forall_mem_cons.2 ⟨⟨_, ZT hG, rfl, FY G t t2 fr fr2⟩, fun _ h => nomatch h⟩⟩)
noncomputable def Fa (G : List (Nat × Obj)) : Tb := Tb.deepX Tryz.prog (((gB G).plus 184 oO).plus 70 (Yc (told gP))) [] 12
theorem s8 {G : List (Nat × Obj)} (hG : XL G) : zZ Tryz.prog (Fa G) := zZ.deepX mixed (zZ.plus (zZ.plus (W4 hG.tab) (M3 hG)) (Gn hG)) _ _
abbrev GT : Prop := True
theorem XC : GT := by simp only [GT, and_self]
abbrev gW : Prop := ((True ∧ True) ∧ True) ∧ True
theorem xT : gW := by simp only [gW, and_self]
def iU : List Lt × Lt := ([.s two, .t [48]], .n 1)
theorem Ff : Yt Fa 97 iU := fun _ _ _ _ _ => Eq.mp (by kernel_rfl) XC
def Jl : List Lt × Lt := ([.s two, .t [49]], .n 1)
theorem F8 : Yt Uq 97 Jl := fun _ _ _ _ _ => Eq.mp (by kernel_rfl) xT
def Jj : List Lt × Lt := ([.s two, .t [50]], .n (-1))
theorem Fv : Yt Uq 97 Jj := fun _ _ _ _ _ => Eq.mp (by kernel_rfl) xT
def JA : List Lt × Lt := ([.s two, .t [49, 51, 47, 49, 48]], .n 1)
theorem FE : Yt Uq 97 JA := fun _ _ _ _ _ => Eq.mp (by kernel_rfl) xT
def JE : List Lt × Lt := ([.s two, .t [55, 47, 53]], .n 1)
theorem F1 : Yt Uq 97 JE := fun _ _ _ _ _ => Eq.mp (by kernel_rfl) xT
def iW : List Lt × Lt := ([.s two, .t [51, 47, 50]], .n (-1))
theorem F6 : Yt Uq 97 iW := fun _ _ _ _ _ => Eq.mp (by kernel_rfl) xT
def iT : List Lt × Lt := ([.s two, .t [49, 52, 49, 51, 47, 49, 48, 48, 48]], .n 1)
theorem Fi : Yt Uq 97 iT := fun _ _ _ _ _ => Eq.mp (by kernel_rfl) xT
def JD : List Lt × Lt := ([.s two, .t [55, 48, 55, 47, 53, 48, 48]], .n 1)
theorem FV : Yt Uq 97 JD := fun _ _ _ _ _ => Eq.mp (by kernel_rfl) xT
def J4 : List Lt × Lt := ([.s two, .t [50, 56, 51, 47, 50, 48, 48]], .n (-1))
theorem FO : Yt Uq 97 J4 := fun _ _ _ _ _ => Eq.mp (by kernel_rfl) xT
def Jk : List Lt × Lt := ([.s three, .t [48]], .n 1)
theorem Fs : Yt Fa 97 Jk := fun _ _ _ _ _ => Eq.mp (by kernel_rfl) XC
def mC : List Lt × Lt := ([.s three, .t [49]], .n 1)
theorem GM : Yt Uq 97 mC := fun _ _ _ _ _ => Eq.mp (by kernel_rfl) xT
def MB : List Lt × Lt := ([.s three, .t [50]], .n (-1))
theorem gE : Yt Uq 97 MB := fun _ _ _ _ _ => Eq.mp (by kernel_rfl) xT
def lV : List Lt × Lt := ([.s three, .t [56, 47, 53]], .n 1)
theorem Gh : Yt Uq 97 lV := fun _ _ _ _ _ => Eq.mp (by kernel_rfl) xT
def mS : List Lt × Lt := ([.s three, .t [49, 55, 47, 49, 48]], .n 1)
theorem GK : Yt Uq 97 mS := fun _ _ _ _ _ => Eq.mp (by kernel_rfl) xT
def li : List Lt × Lt := ([.s three, .t [57, 47, 53]], .n (-1))
theorem G6 : Yt Uq 97 li := fun _ _ _ _ _ => Eq.mp (by kernel_rfl) xT
def Lk : List Lt × Lt := ([.s half, .t [50, 47, 53]], .n 1)
theorem GJ : Yt Uq 97 Lk := fun _ _ _ _ _ => Eq.mp (by kernel_rfl) Px
def L8 : List Lt × Lt := ([.s half, .t [49, 47, 50]], .n 0)
theorem G1 : Yt Uq 97 L8 := fun _ _ _ _ _ => Eq.mp (by kernel_rfl) Px
def GE := [iU, Jl, Jj, JA, JE, iW, iT, JD, J4, Jk, mC, MB, lV, mS, li, Lk, L8]
theorem G9 {G : List (Nat × Obj)} (hG : XL G) : zQ Tryz.prog G 97 (Yc (told GE)) := by
 have hG := hG
 obtain ⟨_, t, fr, t2, fr2, G, rfl⟩ := id hG
 exact WN (List.forall_mem_cons.2 ⟨⟨_, s8 hG, rfl, Ff G t t2 fr fr2⟩, List.forall_mem_cons.2 ⟨⟨_, ZT hG, rfl, F8 G t t2 fr fr2⟩, List.forall_mem_cons.2 ⟨⟨_, ZT hG, rfl, Fv G t t2 fr fr2⟩, List.forall_mem_cons.2 ⟨⟨_, ZT hG, rfl, FE G t t2 fr fr2⟩, List.forall_mem_cons.2 ⟨⟨_, ZT hG, rfl, F1 G t t2 fr fr2⟩, List.forall_mem_cons.2 ⟨⟨_, ZT hG, rfl, F6 G t t2 fr fr2⟩, List.forall_mem_cons.2 ⟨⟨_, ZT hG, rfl, Fi G t t2 fr fr2⟩, List.forall_mem_cons.2 ⟨⟨_, ZT hG, rfl, FV G t t2 fr fr2⟩, List.forall_mem_cons.2 ⟨⟨_, ZT hG, rfl, FO G t t2 fr fr2⟩, List.forall_mem_cons.2 ⟨⟨_, s8 hG, rfl, Fs G t t2 fr fr2⟩, List.forall_mem_cons.2 ⟨⟨_, ZT hG, rfl, GM G t t2 fr fr2⟩, List.forall_mem_cons.2 ⟨⟨_, ZT hG, rfl, gE G t t2 fr fr2⟩, List.forall_mem_cons.2 ⟨⟨_, ZT hG, rfl, Gh G t t2 fr fr2⟩, List.forall_mem_cons.2 ⟨⟨_, ZT hG, rfl, GK G t t2 fr fr2⟩, List.forall_mem_cons.2 ⟨⟨_, ZT hG, rfl, G6 G t t2 fr fr2⟩, List.forall_mem_cons.2 ⟨⟨_, ZT hG, rfl, GJ G t t2 fr fr2⟩, List.forall_mem_cons.2 ⟨⟨_, ZT hG, rfl, G1 G t t2 fr fr2⟩, fun _ h => nomatch h⟩⟩⟩⟩⟩⟩⟩⟩⟩⟩⟩⟩⟩⟩⟩⟩⟩)
end Go.Te

namespace Go.Te
open Go Go.Sx Go.Proofs Go.Ar
set_option maxRecDepth 100000
set_option maxHeartbeats 4000000
-- runs
noncomputable def eW (G : List (Nat × Obj)) : Tb := (((gB G).plus 184 oO).plus 97 (Yc (told GE))).plus 36 (Yc (told fL))
theorem sK {G : List (Nat × Obj)} (hG : XL G) : zZ Tryz.prog (eW G) := zZ.plus (zZ.plus (zZ.plus (W4 hG.tab) (M3 hG)) (G9 hG)) (GX hG)
noncomputable def JG (G : List (Nat × Obj)) : Tb := Tb.deepX Tryz.prog (eW G) [] 12
theorem xV {G : List (Nat × Obj)} (hG : XL G) : zZ Tryz.prog (JG G) := zZ.deepX mixed (sK hG) _ _
def iv : List Lt × Lt := ([.s two, .t [49]], .r ⟨[49], [50]⟩)
theorem FU : Yt JG 38 iv := fun _ _ _ _ _ => Eq.mp (by kernel_rfl) XC
def Jh : List Lt × Lt := ([.s three, .t [49]], .r ⟨[49], [50]⟩)
theorem Fw : Yt JG 38 Jh := fun _ _ _ _ _ => Eq.mp (by kernel_rfl) XC
def J9 : List Lt × Lt := ([.s two, .t [49, 47, 49, 48]], .r ⟨[55, 47, 53], [51, 47, 50]⟩)
theorem F5 : Yt JG 38 J9 := fun _ _ _ _ _ => Eq.mp (by kernel_rfl) XC
def iV : List Lt × Lt := ([.s three, .t [49, 47, 49, 48]], .r ⟨[49, 55, 47, 49, 48], [57, 47, 53]⟩)
theorem Fq : Yt JG 38 iV := fun _ _ _ _ _ => Eq.mp (by kernel_rfl) XC
def gZ := [iv, Jh, J9, iV]
theorem gw {G : List (Nat × Obj)} (hG : XL G) : zQ Tryz.prog G 38 (Yc (told gZ)) := by
 have hG := hG
 obtain ⟨_, t, fr, t2, fr2, G, rfl⟩ := id hG
 exact WN (List.forall_mem_cons.2 ⟨⟨_, xV hG, rfl, FU G t t2 fr fr2⟩, List.forall_mem_cons.2 ⟨⟨_, xV hG, rfl, Fw G t t2 fr fr2⟩, List.forall_mem_cons.2 ⟨⟨_, xV hG, rfl, F5 G t t2 fr fr2⟩, List.forall_mem_cons.2 ⟨⟨_, xV hG, rfl, Fq G t t2 fr fr2⟩, fun _ h => nomatch h⟩⟩⟩⟩)
def JH : List Lt × Lt := ([.s two, .n 3], .r ⟨[55, 48, 55, 47, 53, 48, 48], [50, 56, 51, 47, 50, 48, 48]⟩)
theorem FX : Yt JG 15 JH := fun _ _ _ _ _ => Eq.mp (by kernel_rfl) XC
def Jg : List Lt × Lt := ([.s half, .n 1], .r ⟨[49, 47, 50], [49, 47, 50]⟩)
theorem Fg : Yt JG 15 Jg := fun _ _ _ _ _ => Eq.mp (by kernel_rfl) XC
def gj := [JH, Jg]
theorem gQ {G : List (Nat × Obj)} (hG : XL G) : zQ Tryz.prog G 15 (Yc (told gj)) := by
 have hG := hG
 obtain ⟨_, t, fr, t2, fr2, G, rfl⟩ := id hG
 exact WN (List.forall_mem_cons.2 ⟨⟨_, xV hG, rfl, FX G t t2 fr fr2⟩, List.forall_mem_cons.2 ⟨⟨_, xV hG, rfl, Fg G t t2 fr fr2⟩, fun _ h => nomatch h⟩⟩)
def Jn : List Lt × Lt := ([.r ⟨[45, 49], [50]⟩, .r ⟨[45, 51], [49]⟩], .r ⟨[45, 54], [51]⟩)
theorem FZ : Yt JG 26 Jn := fun _ _ _ _ _ => Eq.mp (by kernel_rfl) XC
def GG := [Jn]
theorem H6 {G : List (Nat × Obj)} (hG : XL G) : zQ Tryz.prog G 26 (Yc (told GG)) := by
 have hG := hG
 obtain ⟨_, t, fr, t2, fr2, G, rfl⟩ := id hG
 exact WN (List.forall_mem_cons.2 ⟨⟨_, xV hG, rfl, FZ G t t2 fr fr2⟩, fun _ h => nomatch h⟩)
noncomputable def EX (G : List (Nat × Obj)) : Tb := Tb.deepX Tryz.prog (((eW G).plus 70 (Yc (told GW))).plus 38 (Yc (told gZ))) [] 12
theorem OI {G : List (Nat × Obj)} (hG : XL G) : zZ Tryz.prog (EX G) := zZ.deepX mixed (zZ.plus (zZ.plus (sK hG) (fx hG)) (gw hG)) _ _
def J6 : List Lt × Lt := ([.s two, .s three], .n 1)
theorem FR : Yt EX 25 J6 := fun _ _ _ _ _ => Eq.mp (by kernel_rfl) XC
def gv := [J6]
theorem gL {G : List (Nat × Obj)} (hG : XL G) : zQ Tryz.prog G 25 (Yc (told gv)) := by
 have hG := hG
 obtain ⟨_, t, fr, t2, fr2, G, rfl⟩ := id hG
 exact WN (List.forall_mem_cons.2 ⟨⟨_, OI hG, rfl, FR G t t2 fr fr2⟩, fun _ h => nomatch h⟩)
noncomputable def Ex (G : List (Nat × Obj)) : Tb := Tb.deepX Tryz.prog ((((Vw G).plus 15 (Yc (told gj))).plus 26 (Yc (told GG))).plus 25 (Yc (told gv))) [] 4
theorem NS {G : List (Nat × Obj)} (hG : XL G) : zZ Tryz.prog (Ex G) := zZ.deepX mixed (zZ.plus (zZ.plus (zZ.plus zq (gQ hG)) (H6 hG)) (gL hG)) _ _
theorem M9 {G : List (Nat × Obj)} (hG : XL G) : zT Tryz.prog G 8 [] (.b true) :=
 xg mixed (NS hG) KG (Eq.mp (α := True) (by kernel_rfl) trivial : uC Tryz.prog (Ex G) 8 .auto [] f9)
end Go.Te

namespace Go.Te
open Go Go.Sx Go.Proofs Go.Ar
set_option maxRecDepth 100000
set_option maxHeartbeats 4000000
def pz (a : zL) : Z9 :=
 .two .auto (.two .auto (.two .auto (.two .auto (.two (.two .auto (.one (.loop Nat (fun σ z => [(0, σ.tm 0), (3, σ.tm 3), (4, .i z)]) (fun σ z => []) 0 (fun σ z => (AV.int (σ.tm 3)).toNat ≤ z ∧ z ≤ a.length ∧ ∀ i, (AV.int (σ.tm 3)).toNat ≤ i → i < z → Zs (a.getD i 0) = true) (fun σ z => a.length - z) .auto))) .auto))))
def WE : List AV → Option (List zn × AV)
 | [.str a] => some ([.p (a.length ≤ 4294967280)], .i (ZX a))
 | _ => none
theorem pV (a : List UInt8) (hl : a.length ≤ 4294967280) :
 let q2 := (zH iZ (lZ a)); let q1 := (!zS true q2 || zS true q2); let q3 := (iZ ≤ iZ ∧ iZ < (lZ a)); let q4 := (cI (UInt8.toNat (gD a 0 (0 : UInt8)))); let q5 := (!zS false (iO == (lZ a)) || zS false (iO == (lZ a))); let q8 := (cI (UInt8.toNat (gD a 1 (0 : UInt8)))); let q7 := (q8 == (48 : Int)); let q6 := (!(zS false (iO == (lZ a)) && zS true q7) || zS false (iO == (lZ a)) && zS true q7); let q9
 := (kI ∧ (11 : Int) = ZX a); let q10 := (AV.int (aI iO)); let q11 := (kI ∧ iO = iO); let q16 := (kI ∧ (4 : Int) = ZX a); let q17 := (kI ∧ iZ = ZX a); let q18 := (!zS false (iZ == (lZ a)) || zS false (iZ == (lZ a))); let q20 := (q4 == (48 : Int)); let q19 := (!(zS false (iZ == (lZ a)) && zS true q20) || zS false (iZ == (lZ a)) && zS true q20); let q21 := (AV.int (AV.v
 (Value.int .i64 iZ))); let q22 := (kI ∧ iZ = iZ); ZY [AV.str a] → bF q1 (bF (!zS true q2 || DB.db q3) (bF q1 (bF (!zH iZ (lZ a) || zS true q2) (zY (bif zH iZ (lZ a) then q4 == (45 : Int) else false) (bF q5 (bF q5 (bF (!zS false (iO == (lZ a)) || DB.db (iZ ≤ iO ∧ iO < (lZ a))) (bF q5 (bF q5 (bF q6 (bF q6 (bF q5 (bF (!zS false (iO == (lZ a)) || (!q8 == (48
 : Int) || zS false (iO == (lZ a)) && zS true q7)) (bF (!!iO == (lZ a) || zS false (iO == (lZ a))) (zY (bif iO == (lZ a) then true else bif q8 == (48 : Int) then zH iO (lZ a) else false) q9 ((∃ (z : Nat), ((Int.toNat q10 ≤ z ∧ z ≤ lN a ∧ ∀ (i : Nat), Int.toNat q10 ≤ i → i < z → Zs (gD a i (0 : UInt8)) = true) ∧ a = a ∧ q11 ∧ kI ∧ iO = (cI z)) ∧ True) ∧ ∀ (z : Nat), let q12 := (iZ ≤ (cI z) ∧ (cI z) <
 (lZ a)); let q15 := (cI (UInt8.toNat (gD a (Int.toNat (↑z : Int)) (0 : UInt8)))); let q14 := (zH q15 (48 : Int)); let q13 := (!zS false q14 || zS false q14); (Int.toNat q10 ≤ z ∧ z ≤ lN a ∧ ∀ (i : Nat), Int.toNat q10 ≤ i → i < z → Zs (gD a i (0 : UInt8)) = true) → zY (zH (cI z) (lZ a)) (bF (DB.db q12) (bF q13 (bF q13 (bF (!zS false q14 || DB.db q12) (bF q13 (bF (!!zH q15 (48 : Int) || zS false q14) (zY (bif zH q15 (48 : Int) then true else zH (57 : Int) q15) q9 (bF (DB.db (Y1
 .i64 ((cI z) + iO))) (∃ (z' : Nat), (((Int.toNat q10 ≤ z' ∧ z' ≤ lN a ∧ ∀ (i : Nat), Int.toNat q10 ≤ i → i < z' → Zs (gD a i (0 : UInt8)) = true) ∧ lN a - z' < lN a - z) ∧ a = a ∧ q11 ∧ kI ∧ (cI z) + iO = (cI z')) ∧ True))))))))) (bF (dK ((lZ a) - iO)) (zY (zH (300 : Int) ((lZ a) - iO)) q16 q17)))))))))))))) (bF q18 (bF q18 (zY
 (!zS false (iZ == (lZ a)) || DB.db q3) (bF q18 (bF q18 (bF q19 (bF q19 (bF q18 (bF (!zS false (iZ == (lZ a)) || (!q4 == (48 : Int) || zS false (iZ == (lZ a)) && zS true q20)) (bF (!!iZ == (lZ a) || zS false (iZ == (lZ a))) (zY (bif iZ == (lZ a) then true else bif q4 == (48 : Int) then zH iO (lZ a) else false) q9 ((∃ (z : Nat), ((Int.toNat q21 ≤ z ∧ z ≤ lN a ∧ ∀ (i : Nat),
 Int.toNat q21 ≤ i → i < z → Zs (gD a i (0 : UInt8)) = true) ∧ a = a ∧ q22 ∧ kI ∧ iZ = (cI z)) ∧ True) ∧ ∀ (z : Nat), let q23 := (iZ ≤ (cI z) ∧ (cI z) < (lZ a)); let q26 := (cI (UInt8.toNat (gD a (Int.toNat (↑z : Int)) (0 : UInt8)))); let q25 := (zH q26 (48 : Int)); let q24 := (!zS false q25 || zS false q25); (Int.toNat q21 ≤ z ∧ z ≤ lN a ∧ ∀ (i : Nat), Int.toNat q21 ≤ i → i < z → Zs (gD a i (0 : UInt8)) = true) → zY (zH (cI z) (lZ a)) (bF (DB.db q23) (zY q24
 (bF q24 (bF (!zS false q25 || DB.db q23) (bF q24 (bF (!!zH q26 (48 : Int) || zS false q25) (zY (bif zH q26 (48 : Int) then true else zH (57 : Int) q26) q9 (bF (dK ((cI z) + iO)) (∃ (z' : Nat), (((Int.toNat q21 ≤ z' ∧ z' ≤ lN a ∧ ∀ (i : Nat), Int.toNat q21 ≤ i → i < z' → Zs (gD a i (0 : UInt8)) = true) ∧ lN a - z' < lN a - z) ∧ a = a ∧ q22 ∧ kI ∧ (cI z) + iO = (cI z')) ∧ True))))))) False)) (bF (dK ((↑(lN a) :
 Int) - iZ)) (zY (zH (300 : Int) ((lZ a) - iZ)) q16 q17))))))))))) False))))))) := by
 delta bF dK cI kI lZ lN gD iZ iO aI
 dsimp only
 intro hb
 simp only [sS, dS, Za, FA]
 have loop : ∀ (k : Nat), (zC a = true ↔ k < a.length ∧ (∀ i, k ≤ i → i < a.length → Zs (a.getD i 0) = true) ∧ ¬ (a.getD k 0 = 48 ∧ 1 < a.length)) → wu a = a.length - k → k ≤ a.length →
   ((!((k : Int) == (a.length : Int))) = true → 0 ≤ (k : Int) ∧ (k : Int) < (a.length : Int)) ∧
    zY (!!((k : Int) == (a.length : Int)) || (!((a.getD k 0).toNat : Int) == 48 || !((k : Int) == (a.length : Int)) && ((a.getD k 0).toNat : Int) == 48))
     (zY ((k : Int) == (a.length : Int) || ((a.getD k 0).toNat : Int) == 48 && zH 1 (a.length : Int)) (11 = ZX a)
      ((∃ z : Nat, (k ≤ z ∧ z ≤ a.length ∧ ∀ (i : Nat), k ≤ i → i < z → Zs (a.getD i 0) = true) ∧ (k : Int) = z) ∧
       ∀ (z : Nat), (k ≤ z ∧ z ≤ a.length ∧ ∀ (i : Nat), k ≤ i → i < z → Zs (a.getD i 0) = true) →
         ((z : Int) < (a.length : Int) → (0 ≤ (z : Int) ∧ (z : Int) < (a.length : Int)) ∧ ((!zH ((a.getD z 0).toNat : Int) 48) = true → 0 ≤ (z : Int) ∧ (z : Int) < (a.length : Int)) ∧
           zY (!Zs (a.getD z 0)) (11 = ZX a) (Y1 .i64 ((z : Int) + 1) ∧ ∃ z' : Nat, ((k ≤ z' ∧ z' ≤ a.length ∧ ∀ (i : Nat), k ≤ i → i < z' → Zs (a.getD i 0) = true) ∧ a.length - z' < a.length - z) ∧ (z : Int) + 1 = z')) ∧
          ((a.length : Int) ≤ (z : Int) → Y1 .i64 ((a.length : Int) - (k : Int)) ∧ (300 < (a.length : Int) - (k : Int) → 4 = ZX a) ∧ ((a.length : Int) - (k : Int) ≤ 300 → 0 = ZX a)))) False := by
  intro k hI hD hk
  by_cases hl : k < a.length
  ·rw [show ((k : Int) == (a.length : Int)) = false from beq_eq_false_iff_ne.2 (by omega)]
   refine ⟨fun _ => ⟨by omega, by omega⟩, ?_⟩
   simp only [Bool.not_false, Bool.not_true, Bool.false_or, Bool.true_and]
   rw [show (!((a.getD k 0).toNat : Int) == 48 || ((a.getD k 0).toNat : Int) == 48) = true by cases ((a.getD k 0).toNat : Int) == 48 <;> rfl, Y3]
   have e48 : (((a.getD k 0).toNat : Int) == 48) = (a.getD k 0 == 48) := YV (a.getD k 0) 48 (by decide)
   rw [e48]
   refine zv.2 ⟨fun c => ?_, fun c => ⟨⟨k, ⟨Nat.le_refl _, by omega, fun i h1 h2 => by omega⟩, rfl⟩, fun z ⟨z1, z2, z3⟩ => ⟨fun hz => ⟨⟨by omega, hz⟩, fun _ => ⟨by omega, hz⟩, zv.2 ⟨fun c2 => ?_, fun c2 => ⟨⟨by omega, by omega⟩, z + 1, ⟨⟨by omega, by omega, fun i h1 h2 => ?_⟩, by omega⟩, by omega⟩⟩⟩, fun hz => ?_⟩⟩⟩
   ·rw [Bool.and_eq_true, beq_iff_eq, zR] at c
    exact (VL fun e => (hI.1 e).2.2 ⟨c.1, by omega⟩).symm
   ·rw [Bool.not_eq_true'] at c2
    refine (VL fun e => ?_).symm
    simp_all
   ·grind
   ·have hall : zC a = true := hI.2 ⟨hl, fun i h1 h2 => z3 i h1 (by omega), fun h => by
     rw [Bool.and_eq_false_iff] at c
     rcases c with c | c
     ·simp_all
     ·rw [Bool.eq_false_iff, Ne, zR] at c; omega⟩
    rw [oU hall, hD]
    refine ⟨⟨by omega, by omega⟩, fun h => ?_, fun h => ?_⟩
    ·rw [(zA _ _).2 (by omega)]; rfl
    ·rw [show Nat.blt 300 (a.length - k) = false from Bool.eq_false_iff.2 fun e => by have := (zA _ _).1 e; omega]; rfl
  ·have hE : 11 = ZX a := (VL fun e => hl (hI.1 e).1).symm
   rw [show ((k : Int) == (a.length : Int)) = true from beq_iff_eq.2 (by omega)]
   refine ⟨fun h => (by cases h), ?_⟩
   assumption
 refine ⟨fun h => ⟨Int.le_refl _, by have := (zA _ _).1 h; omega⟩, zv.2 ⟨fun c => ?_, fun c => ?_⟩⟩
 ·rw [Bool.and_eq_true, zA, show (((a.getD 0 0).toNat : Int) == 45) = (a.getD 0 0 == 45) from YV (a.getD 0 0) 45 (by decide), beq_iff_eq] at c
  refine loop 1 ?_ (Y8 c.1 c.2).2.2.1 c.1
  rw [Tx c.1 c.2]
  exact ⟨fun ⟨h1, h2, h3⟩ => ⟨h1, h2, fun h => h3 h.1⟩, fun ⟨h1, h2, h3⟩ => ⟨h1, h2, fun h => h3 ⟨h, h1⟩⟩⟩
 ·rw [show (((a.getD 0 0).toNat : Int) == 45) = (a.getD 0 0 == 45) from YV (a.getD 0 0) 45 (by decide)] at c
  obtain ⟨e1, e2, _⟩ := Yw (a := a) fun h => by rw [(zA _ _).2 h.1, h.2] at c; cases c
  refine loop 0 ?_ e2 (Nat.zero_le _)
  rw [e1, vz]
  exact ⟨fun ⟨h1, h2, h3⟩ => ⟨h1, fun i _ h => h2 i h, fun h => h3 h.2 h.1⟩, fun ⟨h1, h2, h3⟩ => ⟨h1, fun i h => h2 i (Nat.zero_le _) h, fun h e => h3 ⟨e, h⟩⟩⟩
theorem O7 (a : List UInt8) (hl : a.length ≤ 4294967280) : zT Tryz.prog [] 171 [.str a] (.i (ZX a)) :=
 zU (T := T0) (an := pz a) mixed zq (Eq.mp (by kernel_rfl) (pV a hl))
theorem SR : zQ Tryz.prog [] 171 WE := by
 intro xs ps r h hp
 unfold WE at h
 split at h
 ·skip
  rename_i a
  cases h
  obtain ⟨q0, -⟩ := Zo hp
  exact weaken (ys := [.str a]) ⟨zr _, trivial⟩ (O7 a q0)
 ·cases h
def Nn (l : List Int) : Z9 :=
 .two .auto (.two .auto (.two (.one (.loop Nat (fun σ z => [(0, σ.tm 0), (3, .i z)]) (fun σ z => []) 0 (fun σ z => z ≤ l.length ∧ ∀ i, z ≤ i → l.getD i 0 = 0) (fun σ z => z) .auto)) .auto))
def xj : List AV → Option (List zn × AV)
 | [x_l] => some ([.b (Zy Int x_l)], ZF (zO (zW x_l)))
 | _ => none
theorem nY (l : List Int) :
 let q1 := (xI l); ZY [xI l] → (∃ (z : Nat), ((z ≤ lN l ∧ ∀ (i : Nat), z ≤ i → gD l i iZ = iZ) ∧ zB q1 q1 ∧ kI ∧ (lZ l) = (cI z)) ∧ True) ∧ ∀ (z : Nat), let q2 := (!zS true (zH iZ (cI z)) || zS true (zH iZ (cI z))); (z ≤ lN l ∧ ∀ (i : Nat), z ≤ i → gD l i iZ = iZ) → bF q2 (bF (!zS true (zH (0 :
 Int) (cI z)) || dK ((cI z) - iO)) (bF q2 (bF q2 (bF (!zS true (zH iZ (cI z)) || DB.db (iZ ≤ (cI z) - iO ∧ (cI z) - iO < (lZ l))) (bF q2 (bF q2 (bF (!zH iZ (cI z) || zS true (zH iZ (cI z))) (zY (bif zH iZ (cI z) then gD l (Int.toNat ((cI z) - iO)) zi.dflt == iZ else false) (bF (dK ((cI z) - iO)) (∃ (z' : Nat), (((z' ≤ lN l ∧ ∀ (i : Nat), z' ≤ i → gD l i iZ = (0 :
 Int)) ∧ z' < z) ∧ zB q1 q1 ∧ kI ∧ (cI z) - iO = (cI z')) ∧ True)) (bF (DB.db (iZ ≤ (cI z) ∧ (cI z) ≤ (lZ l))) ((false = true → false = true) ∧ 1 = 1 ∧ lN (zO l) = Int.toNat (cI z) ∧ ∀ (i j : Nat), i < Int.toNat (cI z) → j < 1 → kI ∧ gD l i zi.dflt = gD (zO l) i zi.dflt)))))))))) := by
 delta bF dK xI cI kI lZ lN gD iZ iO
 dsimp only
 intro hb
 have e0 : (zi.dflt : Int) = 0 := rfl
 simp only [sS, dS, e0, Za, VB]
 have hb1 : l.length ≤ 9223372036854775807 := hb.1
 refine ⟨⟨l.length, ⟨Nat.le_refl _, fun i hi => X1 hi⟩, rfl⟩, fun z ⟨h1, h2⟩ => ⟨fun hp => ⟨by omega, by omega⟩, fun hp => ?_, zv.2 ⟨fun c => ?_, fun c => ?_⟩⟩⟩
 ·have := (zA _ _).1 hp; omega
 ·rw [Bool.and_eq_true, beq_iff_eq] at c
  have hp := (zA _ _).1 c.1
  refine ⟨⟨by omega, by omega⟩, z - 1, ⟨⟨by omega, fun i hi => ?_⟩, by omega⟩, by omega⟩
  grind
 ·have ht := wT h1 h2 (by
   by_cases hz : z = 0
   ·exact .inl hz
   ·refine .inr fun e => ?_
    simp_all)
  grind
theorem mB (l : List Int) : zT Tryz.prog [] 173 [ZF l] (ZF (zO l)) :=
 zU (T := T0) (an := Nn l) mixed zq (Eq.mp (by kernel_rfl) (nY l))
theorem wZ : zQ Tryz.prog [] 173 xj := by
 intro xs ps r h hp
 unfold xj at h
 split at h
 ·skip
  rename_i x_l
  cases h
  obtain ⟨q0, -⟩ := Zo hp
  exact weaken (ys := [ZF (zW x_l)]) ⟨za q0, trivial⟩ (mB (zW x_l))
 ·cases h
def X4 : List AV → Option (List zn × AV)
 | [x_l, .v (.int .i64 i)] => some ([.b (Zy Int x_l), .p (0 ≤ i)], .i ((zW x_l).getD i.toNat 0))
 | _ => none
theorem nL (l : List Int) (i : Int) (h0 : 0 ≤ i) :
 ZY [xI l, aI i] → zY (zH i (lZ l)) (bF (DB.db (iZ ≤ i ∧ i < (lZ l))) (kI ∧ gD l (Int.toNat i) zi.dflt = gD l (Int.toNat i) iZ)) (kI ∧ iZ = gD l (Int.toNat i) iZ) := by
 delta bF xI kI lZ gD iZ aI
 intro hb
 have e0 : (zi.dflt : Int) = 0 := rfl
 simp only [sS, dS, e0, Za]
 simp_all
theorem M5 (l : List Int) (i : Int) (h0 : 0 ≤ i) : zT Tryz.prog [] 175 [ZF l, .i i] (.i (l.getD i.toNat 0)) :=
 zU (T := T0) (an := .auto) mixed zq (Eq.mp (by kernel_rfl) (nL l i h0))
theorem Va : zQ Tryz.prog [] 175 X4 := by
 intro xs ps r h hp
 unfold X4 at h
 split at h
 ·skip
  rename_i x_l i
  cases h
  obtain ⟨q0, q1, -⟩ := Zo hp
  exact weaken (ys := [ZF (zW x_l), .i i]) ⟨za q0, zr _, trivial⟩ (M5 (zW x_l) i q1)
 ·cases h
def nD (x y : List Int) : Z9 :=
 .two .auto (.two .auto (.two (.two .auto (.one (.loop Nat (fun σ z => [(0, σ.tm 0), (1, σ.tm 1), (5, .i ((z : Int) - 1))]) (fun σ z => []) 0 (fun σ z => z ≤ x.length ∧ ∀ i, z ≤ i → i < x.length → x.getD i 0 = y.getD i 0) (fun σ z => z) .auto))) .auto))
def Vr : List AV → Option (List zn × AV)
 | [x_x, x_y] => some ([.b (Zy Int x_x), .b (Zy Int x_y)], .i (UN (cmpL (zW x_x) (zW x_y))))
 | _ => none
theorem nG (x : List Int) (y : List Int) :
 let q1 := (kI ∧ (-1 : Int) = UN (cmpL x y)); let q2 := (kI ∧ iO = UN (cmpL x y)); let q3 := (xI x); let q4 := (xI y); ZY [xI x, xI y] → zY ((lZ x) != (lZ y)) (zY (zH (cI (List.length
 x)) (lZ y)) q1 q2) (bF (dK ((lZ x) - iO)) ((∃ (z : Nat), ((z ≤ lN x ∧ ∀ (i : Nat), z ≤ i → i < lN x → gD x i iZ = gD y i iZ) ∧ zB q3 q3 ∧ zB q4 q4 ∧ kI ∧ (lZ x) - iO = (cI z) - iO) ∧ True) ∧ ∀ (z : Nat), let q5 := (DB.db (iZ ≤ (cI z) - iO ∧ (cI z) - iO < (lZ x))); let q6 := (DB.db (iZ ≤ (cI z) - iO ∧ (cI z) - iO < (lZ y))); let q7 :=
 (gD x (Int.toNat ((cI z) - iO)) zi.dflt); let q8 := (gD y (Int.toNat ((cI z) - iO)) zi.dflt); (z ≤ lN x ∧ ∀ (i : Nat), z ≤ i → i < lN x → gD x i iZ = gD y i iZ) → zY (leB iZ ((cI z) - iO)) (bF q5 (bF q6 (zY (zH q7 q8) q1 (bF q5 (bF q6 (zY (zH q8 q7) q2 (bF (dK ((cI z) - iO - iO)) (∃ (z' : Nat), (((z' ≤ lN x ∧ ∀ (i : Nat), z' ≤ i → i < lN x → gD x i iZ = gD y i iZ) ∧ z' < z) ∧ zB q3
 q3 ∧ zB q4 q4 ∧ kI ∧ (cI z) - iO - iO = (cI z') - iO) ∧ True)))))))) (kI ∧ iZ = UN (cmpL x y)))) := by
 delta bF dK xI cI kI lZ lN gD iZ iO
 dsimp only
 intro hb
 have e0 : (zi.dflt : Int) = 0 := rfl
 simp only [sS, dS, e0, Za, VB]
 have hx : x.length ≤ 9223372036854775807 := hb.1.1
 have hy : y.length ≤ 9223372036854775807 := hb.2.1
 refine ⟨fun hne => ?_, fun heq => ⟨⟨by omega, by omega⟩, ⟨x.length, ⟨Nat.le_refl _, fun i h1 h2 => by omega⟩, rfl⟩, fun z ⟨h1, h2⟩ => ⟨fun hz => ?_, fun hz => ?_⟩⟩⟩
 ·rw [OL (fun e => hne (by omega))]
  exact ⟨fun h => (rV (by omega)).symm, fun h => (rp (by omega)).symm⟩
 ·have hd : cmpL x y = vq x y z := by rw [cmpL_eq (by omega), wt h1 h2]
  have hd2 : vq x y z = bif x.getD (z - 1) 0 != y.getD (z - 1) 0 then x.getD (z - 1) 0 - y.getD (z - 1) 0 else vq x y (z - 1) := by
   conv => lhs; rw [show z = z - 1 + 1 by omega]
   rfl
  refine ⟨⟨by omega, by omega⟩, ⟨by omega, by omega⟩, fun h => ?_, fun h => ⟨⟨by omega, by omega⟩, ⟨by omega, by omega⟩, fun h3 => ?_, fun h3 => ⟨⟨by omega, by omega⟩, z - 1, ⟨⟨by omega, fun i h4 h5 => ?_⟩, by omega⟩, by omega⟩⟩⟩
  ·rw [hd, hd2, bne_iff_ne.2 (by omega)]
   exact (rV (by simp only [cond_true]; omega)).symm
  ·rw [hd, hd2, bne_iff_ne.2 (by omega)]
   exact (rp (by simp only [cond_true]; omega)).symm
  grind
 ·rw [cmpL_eq (by omega), wt h1 h2, show z = 0 by omega]; rfl
theorem Mq (x : List Int) (y : List Int) : zT Tryz.prog [] 178 [ZF x, ZF y] (.i (UN (cmpL x y))) :=
 zU (T := T0) (an := nD x y) mixed zq (Eq.mp (by kernel_rfl) (nG x y))
theorem QZ : zQ Tryz.prog [] 178 Vr := by
 intro xs ps r h hp
 unfold Vr at h
 split at h
 ·skip
  rename_i x_x x_y
  cases h
  obtain ⟨q0, q1, -⟩ := Zo hp
  exact weaken (ys := [ZF (zW x_x), ZF (zW x_y)]) ⟨za q0, za q1, trivial⟩ (Mq (zW x_x) (zW x_y))
 ·cases h
end Go.Te

namespace Go.Te
open Go Go.Sx Go.Proofs Go.Ar
set_option maxRecDepth 100000
set_option maxHeartbeats 4000000
def Vd : List AV → Option (List zn × AV)
 | [.str a, .str b] => some ([.p (a.length ≤ 4294967280), .p (b.length ≤ 4294967280)], .i (zI a b))
 | _ => none
theorem NG (a : List UInt8) (b : List UInt8) (hl : a.length ≤ 4294967280) (hm : b.length ≤ 4294967280) :
 ZY [AV.str a, AV.str b] → lN a ≤ nM ∧ zY (ZX a != iZ) (kI ∧ ZX a = zI a b) (lN b ≤ nM ∧ kI ∧ ZX b = zI a b) := by
 delta nM kI lN iZ
 intro hb
 simp only [sS, dS]
 exact ⟨hl, fun h => by unfold zI; rw [bne_iff_ne.2 h]; rfl, fun h => ⟨hm, by unfold zI; rw [h]; rfl⟩⟩
theorem Mp (a : List UInt8) (b : List UInt8) (hl : a.length ≤ 4294967280) (hm : b.length ≤ 4294967280) : zT Tryz.prog [] 113 [.str a, .str b] (.i (zI a b)) :=
 zU (T := T0.plus 171 WE) (an := .auto) mixed (zZ.plus zq SR) (Eq.mp (by kernel_rfl) (NG a b hl hm))
theorem QN : zQ Tryz.prog [] 113 Vd := by
 intro xs ps r h hp
 unfold Vd at h
 split at h
 ·skip
  rename_i a b
  cases h
  obtain ⟨q0, q1, -⟩ := Zo hp
  exact weaken (ys := [.str a, .str b]) ⟨zr _, zr _, trivial⟩ (Mp a b q0 q1)
 ·cases h
def pR (a : zL) : Z9 :=
 .two .auto (.two .auto (.two .auto (.two (.two .auto (.one (.loop Nat (fun σ z => [(0, σ.tm 0), (4, .i (zm (nums a z) : Int)), (5, .i z)]) (fun σ z => []) 0 (fun σ z => z ≤ a.length) (fun σ z => a.length - z) .auto))) .auto)))
def uP : List AV → Option (List zn × AV)
 | [.str a] => some ([.p (zC a = true), .p (a.length ≤ 4294967280)], .tup 2 (zt [.i (bif leB a.length 17 then zV a else 0), .b (leB a.length 17)]))
 | _ => none
theorem Pg (a : List UInt8) (hi : zC a = true) (hl : a.length ≤ 4294967280) :
 ZY [AV.str a] → zY (zH (17 : Int) (lZ a)) (j2 ∧ (True ∧ kI ∧ iZ = bif leB (lZ a) (17 : Int) then zV a else iZ) ∧ false = leB (lZ a) (17 : Int)) ((∃ (z : Nat), (z ≤ lN a ∧ a = a ∧ (kI ∧ iZ = (cI (zm (nums a z)))) ∧ kI ∧ iZ = (cI z)) ∧ True) ∧ ∀ (z : Nat), z ≤ lN a → zY (zH (cI z) (lZ a)) (zY (DB.db (iZ ≤ (cI z) ∧ (cI z) < (lZ a)))
 (zY ((cI (UInt8.toNat (gD a (Int.toNat (↑z : Int)) (0 : UInt8)))) != (45 : Int)) (bF (dK ((10 : Int) * (cI (zm (nums a z))))) (bF (DB.db (iZ ≤ (cI z) ∧ (cI z) < (lZ a))) (bF (DB.db (Y1 IntKind.u8 ((cI (UInt8.toNat (gD a (Int.toNat (↑z : Int)) (0 : UInt8)))) - (48 : Int)))) (bF (DB.db (Y1 .i64 ((cI (UInt8.toNat (gD a (Int.toNat (↑z : Int)) (0 : UInt8)))) - (48 : Int)))) (bF (DB.db (Y1 .i64 ((10 : Int) * (cI (zm (nums a z))) + ((cI (UInt8.toNat (gD a (Int.toNat (↑z : Int))
 (0 : UInt8)))) - (48 : Int))))) (bF (dK ((cI z) + iO)) (∃ (z' : Nat), ((z' ≤ lN a ∧ lN a - z' < lN a - z) ∧ a = a ∧ (kI ∧ (10 : Int) * (cI (zm (nums a z))) + ((cI (UInt8.toNat (gD a (Int.toNat (↑z : Int)) (0 : UInt8)))) - (48 : Int)) = (cI (zm (nums a z')))) ∧ kI ∧ (cI z) + iO = (cI z')) ∧ True))))))) (bF (dK ((cI z) + iO)) (∃ (z' : Nat), ((z' ≤ lN a ∧ lN a - z' < lN a - z)
 ∧ a = a ∧ (kI ∧ (cI (zm (nums a z))) = (cI (zm (nums a z')))) ∧ kI ∧ (cI z) + iO = (cI z')) ∧ True))) False) (bF (DB.db (iZ ≤ iZ ∧ iZ < (lZ a))) (zY ((cI (UInt8.toNat (gD a 0 (0 : UInt8)))) == (45 : Int)) (bF (dK (-(cI (zm (nums a z))))) (j2 ∧ (True ∧ kI ∧ -(cI (zm (nums a z))) = bif leB (lZ a) (17 : Int) then zV a else iZ) ∧ true = leB (lZ a) (17 :
 Int))) (j2 ∧ (True ∧ kI ∧ (cI (zm (nums a z))) = bif leB (lZ a) (17 : Int) then zV a else iZ) ∧ true = leB (lZ a) (17 : Int))))) := by
 delta bF dK cI kI j2 lZ lN gD iZ iO
 intro hb
 simp only [sS, dS]
 have h0 : 0 < a.length := by
  match a, hi with
  | [], hi => cases hi
  | c :: r, _ => simp
 have e45 : ∀ z, (((a.getD z 0).toNat : Int) = 45) ↔ a.getD z 0 = 45 := fun z => by
  have := YV (a.getD z 0) 45 (by decide)
  rw [Bool.eq_iff_iff, beq_iff_eq, beq_iff_eq] at this
  exact this
 refine ⟨fun h => ?_, fun h => ?_⟩
 ·rw [show leB (a.length : Int) 17 = false by rw [Bool.eq_false_iff, Ne, ze]; omega]
  exact ⟨rfl, rfl, rfl⟩
 rw [show leB (a.length : Int) 17 = true from (ze _ _).2 h]
 have hv := Np hi
 refine ⟨⟨0, Nat.zero_le _, rfl, rfl⟩, fun z hz => ⟨fun hlt => ⟨⟨by omega, hlt⟩, fun hne => ?_, fun he => ?_⟩, fun hge => ⟨⟨Int.le_refl _, by omega⟩, fun he => ?_, fun hne => ?_⟩⟩⟩
 ·have hne' : a.getD z 0 ≠ 45 := fun e => hne ((e45 z).2 e)
  have hd := sR hi (i := z) (by omega) hne'
  have hdi := yR.1 hd
  have b1 := U7 hi (by omega) z
  have hst : (zm (nums a (z + 1)) : Int) = 10 * (zm (nums a z) : Int) + (((a.getD z 0).toNat : Int) - 48) := by
   rw [jk (by omega) hne', Y5]
   unfold vZ
   omega
  exact ⟨⟨by omega, by omega⟩, ⟨by omega, hlt⟩, ⟨by omega, by omega⟩, ⟨by omega, by omega⟩, ⟨by omega, by omega⟩, ⟨by omega, by omega⟩, z + 1, ⟨by omega, by omega⟩, hst.symm, by omega⟩
 ·have he' := (e45 z).1 he
  exact ⟨⟨by omega, by omega⟩, z + 1, ⟨by omega, by omega⟩, by rw [PF (by omega) he'], by omega⟩
 ·obtain rfl : z = a.length := by omega
  have b1 := U7 hi (by omega) a.length
  rw [if_pos ((e45 0).1 he)] at hv
  exact ⟨⟨by omega, by omega⟩, rfl, hv.symm, rfl⟩
 ·rw [if_neg fun e => hne ((e45 0).2 e)] at hv
  rw [show z = a.length by omega]
  exact ⟨rfl, hv.symm, rfl⟩
theorem nt (a : List UInt8) (hi : zC a = true) (hl : a.length ≤ 4294967280) : zT Tryz.prog [] 172 [.str a] (.tup 2 (zt [.i (bif leB a.length 17 then zV a else 0), .b (leB a.length 17)])) :=
 zU (T := T0) (an := pR a) mixed zq (Eq.mp (by kernel_rfl) (Pg a hi hl))
theorem nB : zQ Tryz.prog [] 172 uP := by
 intro xs ps r h hp
 unfold uP at h
 split at h
 ·skip
  rename_i a
  cases h
  obtain ⟨q0, q1, -⟩ := Zo hp
  exact weaken (ys := [.str a]) ⟨zr _, trivial⟩ (nt a q0 q1)
 ·cases h
def gn : OB → Nat → AV
 | .box _ _ cs, j => cs j
 | _, _ => .junk
def OC (a : zL) : Z9 :=
 .two .auto (.two .auto (.two .auto (.two (.two .auto (.one (.loop yO (fun σ z => [(0, σ.tm 0), (2, σ.tm 2), (3, σ.tm 3), (4, .i (((AV.bytes (σ.tm 0)).length : Int) - 6 * (z.k : Int)))]) (fun σ z => [(1, .box 139 2 (zt [gn (σ.bl 1) 0, .ns σ.nb 0 z.L.length])), (σ.nb, WZ z.L)]) 1 (fun σ z => Oz (AV.bytes (σ.tm 0)) z) (fun σ z => (AV.bytes (σ.tm 0)).length + 6 - 6 * z.k) (.two .auto (.two (.one (.two .auto (.two (.two .auto (.one (.loop Nat (fun σ z => [(0, σ.tm 0), (2, σ.tm 2), (3, σ.tm 3), (4, σ.tm 4), (5, .i (zm (((AV.bytes (σ.tm 0)).take z).drop ((AV.int (σ.tm 4)).toNat - 6)) : Int)), (6, .i z)]) (fun σ z => []) 0 (fun σ z => (AV.int (σ.tm 4)).toNat - 6 ≤ z ∧ z ≤ (AV.int (σ.tm 4)).toNat) (fun σ z => (AV.int (σ.tm 4)).toNat - z) .auto))) .auto))) .auto))))) .auto)))
def Vv : List AV → Option (List zn × AV)
 | [.str a] => some ([.p (zC a = true), .p (a.length ≤ 4294967280)], .agg 2 (zt [.b (a.getD 0 0 == 45), ZF (zw 1000000 (zV a).natAbs)]))
 | _ => none
theorem O6 (a : List UInt8) (hi : zC a = true) (hl : a.length ≤ 4294967280) :
 let q1 := (lZ (AV.bytes (AV.str (List.drop 1 a)))); let q2 := (139 = 139 ∧ 2 = 2 ∧ false = false ∧ Value.slice (wP Addr) 0 0 = Array.getD (Value.cells (Value.agg #[Value.bool false, Value.slice (wP Addr) 0 0])) (nat_lit 1) undef); let q12 := (gD a 0 (0 : UInt8) == (45 : UInt8)); let q14 := (lZ (AV.bytes (AV.str a))); ZY [AV.str a] → bF (DB.db (iZ ≤ iZ ∧ iZ < (lZ a))) (zY ((cI (UInt8.toNat (gD a 0 (0 : UInt8)))) == (45 : Int)) (bF (DB.db (iZ ≤ iO ∧ iO ≤ (cI (List.length
 a)))) ((∃ (z : yO), (Oz (AV.bytes (AV.str (List.drop 1 a))) z ∧ List.drop 1 a = List.drop 1 a ∧ (nat_lit 0 = 0 ∧ 0 = 0) ∧ (nat_lit 1 = 1 ∧ 0 = 0) ∧ kI ∧ (lZ (List.drop 1 a)) = q1 - (6 : Int) * (cI (yO.k z))) ∧ (q2 ∧ (139 : TypeId) = 139 ∧ 2 = 2 ∧ true = true ∧ some (wP Nat) = some (wP Nat) ∧ 0 = 0 ∧ lN (yO.L z) = 0) ∧ lN (yO.L z) = 0) ∧ ∀ (z : yO), let q3 := (q1 - (6 : Int) * (cI (yO.k z))); let q4 := (dK (q1 - (6 : Int) * (cI (yO.k z)) - (6 : Int))); let q5 := (AV.int (aI q3)); let
 q6 := (kI ∧ q1 - (6 : Int) * (cI (yO.k z)) = q1 - (6 : Int) * (cI (yO.k z))); let q7 := (Int.toNat q5 - 6); let q8 := (q2 ∧ 139 = 139 ∧ 2 = 2 ∧ true = true ∧ nat_lit 2 = 2 ∧ 0 = 0 ∧ lN (yO.L z) = lN (yO.L z)); let q11 := (AV.xl false 1 (lN (yO.L z)) fun i j => aI (gD (yO.L z) (0 + i) iZ)); let q13 := (zO (zW q11)); Oz (AV.bytes (AV.str (List.drop 1 a))) z → zY (zH iZ q3) (bF q4 ((∃ (z_1 : Nat), ((Int.toNat q5 - 6 ≤ z_1 ∧ z_1 ≤ Int.toNat q5) ∧ List.drop 1 a = List.drop 1 a ∧ (nat_lit
 0 = 0 ∧ 0 = 0) ∧ (nat_lit 1 = 1 ∧ 0 = 0) ∧ q6 ∧ (kI ∧ iZ = (↑(zm (List.drop q7 (List.take z_1 (AV.bytes (AV.str (List.drop 1 a)))))) : Int)) ∧ kI ∧ (if q1 - (6 : Int) * (cI (yO.k z)) - (6 : Int) > iZ then q1 - (6 : Int) * (cI (yO.k z)) - (6 : Int) else iZ) = (cI z_1)) ∧ q8 ∧ 3 = 3 ∧ 1 = 1 ∧ lN (yO.L z) = lN (yO.L z) ∧ ∀ (i j : Nat), i < lN (yO.L z) → j < 1 → kI ∧ gD (yO.L z) i iZ = gD (yO.L z) i iZ) ∧ ∀ (z_1 : Nat), let q9 := (↑(zm (List.drop q7
 (List.take z_1 (AV.bytes (AV.str (List.drop 1 a)))))) : Int); let q10 := ((cI (UInt8.toNat (gD (List.drop 1 a) (Int.toNat (↑z_1 : Int)) (0 : UInt8)))) - (48 : Int)); Int.toNat q5 - 6 ≤ z_1 ∧ z_1 ≤ Int.toNat q5 → zY (zH (cI z_1) q3) (zY (dK ((10 : Int) * q9)) (bF (DB.db (iZ ≤ (cI z_1) ∧ (cI z_1) < (lZ (List.drop 1 a)))) (bF (DB.db (Y1 IntKind.u8 q10)) (bF (dK q10) (bF (dK ((10 : Int) * q9 + q10)) (bF (dK ((cI z_1) + iO)) (∃ (z' : Nat), (((Int.toNat q5 -
 6 ≤ z' ∧ z' ≤ Int.toNat q5) ∧ Int.toNat q5 - z' < Int.toNat q5 - z_1) ∧ List.drop 1 a = List.drop 1 a ∧ (nat_lit 0 = 0 ∧ 0 = 0) ∧ (nat_lit 1 = 1 ∧ 0 = 0) ∧ q6 ∧ (kI ∧ (10 : Int) * q9 + q10 = (↑(zm (List.drop q7 (List.take z' (AV.bytes (AV.str (List.drop 1 a)))))) : Int)) ∧ kI ∧ (cI z_1) + iO = (cI z')) ∧ q8 ∧ 3 = 3 ∧ 1 = 1 ∧ lN (yO.L z) = lN (yO.L z) ∧ ∀ (i j : Nat), i < lN (yO.L z) → j < 1 → kI ∧ gD (yO.L z) i iZ = gD (yO.L z) i iZ))))))
 False) (bF (DB.db ((lN (yO.L z) + 1) * 8 ≤ 140737488355328)) (bF q4 (∃ (z' : yO), ((Oz (AV.bytes (AV.str (List.drop 1 a))) z' ∧ lN (AV.bytes (AV.str (List.drop 1 a))) + 6 - 6 * yO.k z' < lN (AV.bytes (AV.str (List.drop 1 a))) + 6 - 6 * yO.k z) ∧ List.drop 1 a = List.drop 1 a ∧ (nat_lit 0 = 0 ∧ 0 = 0) ∧ (nat_lit 1 = 1 ∧ 0 = 0) ∧ kI ∧ q1 - (6 : Int) * (cI (yO.k z)) - (6 : Int) = q1 - (6 : Int) * (cI (yO.k z'))) ∧ (q2 ∧ 139 = 139 ∧ 2 = 2 ∧ true = true ∧ nat_lit 2 = 2 ∧ 0 = 0 ∧ lN (yO.L z') = lN (yO.L z) + 1) ∧ (3
 : TypeId) = 3 ∧ 1 = 1 ∧ lN (yO.L z') = lN (yO.L z) + 1 ∧ ∀ (i j : Nat), i < lN (yO.L z) + 1 → j < 1 → zB (if i < lN (yO.L z) then aI (gD (yO.L z) i iZ) else Sx.rowAt [fun (x : Nat) => aI q9] (i - lN (yO.L z)) j) (aI (gD (yO.L z') i iZ))))))) (bF (Zy Int q11) (2 = 2 ∧ true = q12 ∧ (false = true → false = true) ∧ 1 = 1 ∧ lN (zw 1000000 (Int.natAbs (zV a))) = lN q13 ∧ ∀ (i j : Nat), i < lN q13 → j < 1 →
 kI ∧ gD q13 i zi.dflt = gD (zw 1000000 (Int.natAbs (zV a))) i zi.dflt)))) ((∃ (z : yO), (Oz (AV.bytes (AV.str a)) z ∧ a = a ∧ (nat_lit 0 = 0 ∧ 0 = 0) ∧ (nat_lit 1 = 1 ∧ 0 = 0) ∧ kI ∧ (lZ a) = q14 - (6 : Int) * (cI (yO.k z))) ∧ (q2 ∧ (139 : TypeId) = 139 ∧ 2 = 2 ∧ false = false ∧ some (wP Nat) = some (wP Nat) ∧ 0 = 0 ∧ lN (yO.L z) = 0) ∧ lN (yO.L z) = 0) ∧ ∀ (z : yO), let q15 := (q14 - (6 : Int) * (cI (yO.k z))); let q16 := (dK (q14 - (6 : Int) * (cI (yO.k z)) -
 (6 : Int))); let q17 := (AV.int (aI q15)); let q18 := (kI ∧ q14 - (6 : Int) * (cI (yO.k z)) = q14 - (6 : Int) * (cI (yO.k z))); let q19 := (Int.toNat q17 - 6); let q20 := (q2 ∧ 139 = 139 ∧ 2 = 2 ∧ false = false ∧ nat_lit 2 = 2 ∧ 0 = 0 ∧ lN (yO.L z) = lN (yO.L z)); let q23 := (AV.xl false 1 (lN (yO.L z)) fun i j => aI (gD (yO.L z) (0 + i) iZ)); let q24 := (zO (zW q23)); Oz (AV.bytes (AV.str a)) z → zY (zH iZ q15) (bF q16 ((∃ (z_1 : Nat), ((Int.toNat q17 - 6 ≤ z_1
 ∧ z_1 ≤ Int.toNat q17) ∧ a = a ∧ (nat_lit 0 = 0 ∧ 0 = 0) ∧ (nat_lit 1 = 1 ∧ 0 = 0) ∧ q18 ∧ (kI ∧ iZ = (↑(zm (List.drop q19 (List.take z_1 (AV.bytes (AV.str a))))) : Int)) ∧ kI ∧ (if q14 - (6 : Int) * (cI (yO.k z)) - (6 : Int) > iZ then q14 - (6 : Int) * (cI (yO.k z)) - (6 : Int) else iZ) = (cI z_1)) ∧ q20 ∧ 3 = 3 ∧ 1 = 1 ∧ lN (yO.L z) = lN (yO.L z) ∧ ∀ (i j : Nat), i < lN (yO.L z) → j < 1 → kI ∧ gD (yO.L z) i iZ = gD (yO.L z) i iZ) ∧ ∀ (z_1 : Nat), let
 q21 := (↑(zm (List.drop q19 (List.take z_1 (AV.bytes (AV.str a))))) : Int); let q22 := ((cI (UInt8.toNat (gD a (Int.toNat (↑z_1 : Int)) (0 : UInt8)))) - (48 : Int)); Int.toNat q17 - 6 ≤ z_1 ∧ z_1 ≤ Int.toNat q17 → zY (zH (cI z_1) q15) (bF (dK ((10 : Int) * q21)) (bF (DB.db (iZ ≤ (cI z_1) ∧ (cI z_1) < (lZ a))) (bF (DB.db (Y1 IntKind.u8 q22)) (bF (dK q22) (bF (dK ((10 : Int) * q21 + q22)) (bF (dK ((cI z_1) + iO)) (∃ (z' : Nat), (((Int.toNat q17 - 6 ≤
 z' ∧ z' ≤ Int.toNat q17) ∧ Int.toNat q17 - z' < Int.toNat q17 - z_1) ∧ a = a ∧ (nat_lit 0 = 0 ∧ 0 = 0) ∧ (nat_lit 1 = 1 ∧ 0 = 0) ∧ q18 ∧ (kI ∧ (10 : Int) * q21 + q22 = (↑(zm (List.drop q19 (List.take z' (AV.bytes (AV.str a))))) : Int)) ∧ kI ∧ (cI z_1) + iO = (cI z')) ∧ q20 ∧ 3 = 3 ∧ 1 = 1 ∧ lN (yO.L z) = lN (yO.L z) ∧ ∀ (i j : Nat), i < lN (yO.L z) → j < 1 → kI ∧ gD (yO.L z) i iZ = gD (yO.L z) i iZ))))))) (bF (DB.db ((List.length
 (yO.L z) + 1) * 8 ≤ 140737488355328)) (bF q16 (∃ (z' : yO), ((Oz (AV.bytes (AV.str a)) z' ∧ lN (AV.bytes (AV.str a)) + 6 - 6 * yO.k z' < lN (AV.bytes (AV.str a)) + 6 - 6 * yO.k z) ∧ a = a ∧ (nat_lit 0 = 0 ∧ 0 = 0) ∧ (nat_lit 1 = 1 ∧ 0 = 0) ∧ kI ∧ q14 - (6 : Int) * (cI (yO.k z)) - (6 : Int) = q14 - (6 : Int) * (cI (yO.k z'))) ∧ (q2 ∧ 139 = 139 ∧ 2 = 2 ∧ false = false ∧ nat_lit 2 = 2 ∧ 0 = 0 ∧ lN (yO.L z') = lN (yO.L z) + 1) ∧ (3 : TypeId) = 3 ∧ 1 = 1 ∧ lN (yO.L z') = lN (yO.L z) + 1 ∧ ∀ (i j : Nat), i <
 lN (yO.L z) + 1 → j < 1 → zB (if i < lN (yO.L z) then aI (gD (yO.L z) i iZ) else Sx.rowAt [fun (x : Nat) => aI q21] (i - lN (yO.L z)) j) (aI (gD (yO.L z') i iZ))))))) (bF (Zy Int q23) (2 = 2 ∧ false = q12 ∧ (false = true → false = true) ∧ 1 = 1 ∧ lN (zw 1000000 (Int.natAbs (zV a))) = lN q24 ∧ ∀ (i j : Nat), i < lN q24 → j < 1 → kI ∧ gD q24 i zi.dflt = gD (zw 1000000 (Int.natAbs (zV a))) i
 zi.dflt)))) := by
 delta bF dK cI kI lZ lN gD iZ iO aI
 dsimp only
 intro hb
 have eb : ∀ l : zL, AV.bytes (.str l) = l := fun _ => rfl
 have e0 : (zi.dflt : Int) = 0 := rfl
 simp only [↓ZE, ↓ZR, row_one, eb]
 simp only [sS, dS, e0]
 have h0 : 0 < a.length := by
  match a, hi with
  | [], hi => cases hi
  | c :: r, _ => simp
 have e45 : (((a.getD 0 0).toNat : Int) = 45) ↔ a.getD 0 0 = 45 := by
  have := YV (a.getD 0 0) 45 (by decide)
  rw [Bool.eq_iff_iff, beq_iff_eq, beq_iff_eq] at this
  exact this
 refine ⟨⟨Int.le_refl _, by omega⟩, fun h => ⟨⟨by omega, by omega⟩, ?_⟩, fun h => ?_⟩
 ·have hm := e45.1 h
  obtain ⟨_, hm1, _, hm4⟩ := Y8 h0 hm
  have hd1 : z6 (a.drop 1) = true := by
   rw [hi] at hm1
   cases hx : z6 (a.drop 1) with
   | true => rfl
   | false => rw [hx] at hm1; cases hm1
  have hm2 : (a.getD 0 0 == 45) = true := beq_iff_eq.2 hm
  have hs : ∀ c ∈ a.drop 1, Zs c = true := (Zx.1 hd1).2.1
  have hsl : (a.drop 1).length ≤ 4294967280 := by rw [List.length_drop]; omega
  generalize hS : a.drop 1 = s at *
  refine ⟨⟨⟨0, []⟩, ⟨.start s, by simp⟩, ⟨rfl, rfl⟩, rfl⟩, fun z hz => ⟨fun hlt => ?_, fun hge => ?_⟩⟩
  ·have hk : 6 * z.k < s.length := by omega
   have ht : ((s.length : Int) - 6 * (z.k : Int)).toNat = s.length - 6 * z.k := by omega
   rw [ht]
   refine ⟨⟨by omega, by omega⟩, ⟨s.length - 6 * z.k - 6, ⟨⟨Nat.le_refl _, by omega⟩, ?_, by split <;> omega⟩, rfl, fun _ _ _ _ => trivial⟩, fun i ⟨i1, i2⟩ => ⟨fun hi2 => ?_, fun hi2 => ?_⟩⟩
   ·rw [List.drop_of_length_le (by rw [List.length_take]; omega)]; rfl
   ·have hd := hs (s.getD i 0) (by rw [List.getD_eq_getElem?_getD, List.getElem?_eq_getElem (by omega)]; exact List.getElem_mem _)
    have hdi := yR.1 hd
    have b1 := Tl hs (k := z.k) i2
    have hst : (zm (Yo s z.k (i + 1)) : Int) = 10 * (zm (Yo s z.k i) : Int) + (((s.getD i 0).toNat : Int) - 48) := by
     rw [te (by omega) i1, Y5]
     unfold vZ
     omega
    have ec : ∀ i, (s.take i).drop (s.length - 6 * z.k - 6) = Yo s z.k i := fun i => rfl
    simp only [ec]
    exact ⟨⟨by omega, by omega⟩, ⟨by omega, by omega⟩, ⟨by omega, by omega⟩, ⟨by omega, by omega⟩, ⟨by omega, by omega⟩, ⟨by omega, by omega⟩, i + 1, ⟨⟨⟨by omega, by omega⟩, by omega⟩, hst.symm, by omega⟩, rfl, fun _ _ _ _ => trivial⟩
   ·have hlen := hz.len
    refine ⟨by omega, ⟨by omega, by omega⟩, ⟨z.k + 1, z.L ++ [(zm (Yo s z.k (s.length - 6 * z.k)) : Int)]⟩, ⟨⟨hz.step hs hk, by simp only; omega⟩, by simp only; omega⟩, ⟨rfl, by simp⟩, by simp, fun x y hx _ => ?_⟩
    have ei : i = s.length - 6 * z.k := by omega
    subst ei
    split
    ·rename_i hlt2
     rw [List.getD_eq_getElem?_getD, List.getD_eq_getElem?_getD, List.getElem?_append_left hlt2]; exact zr _
    ·rename_i hge2
     have ex : x = z.L.length := by omega
     subst ex
     show zB _ (AV.v (Value.int .i64 ((z.L ++ [(zm (Yo s z.k (s.length - 6 * z.k)) : Int)]).getD z.L.length 0)))
     rw [List.getD_eq_getElem?_getD, List.getElem?_append_right (Nat.le_refl _), Nat.sub_self]
     exact zr _
  ·have he := hz.end_ (by omega)
   rw [he, show (zV a).natAbs = zm s by rw [hm4]; omega]
   exact ⟨hm2.symm, fun h => h, rfl, fun _ _ _ _ => rfl⟩
 ·have hm : a.getD 0 0 ≠ 45 := fun e => h (e45.2 e)
  obtain ⟨hp1, _, hp3⟩ := Yw (a := a) fun e => hm e.2
  rw [hi] at hp1
  have hp1 := hp1.symm
  have hp4 : (a.getD 0 0 == 45) = false := beq_eq_false_iff_ne.2 hm
  have hs : ∀ c ∈ a, Zs c = true := (Zx.1 hp1).2.1
  have hsl : a.length ≤ 4294967280 := by exact hl
  generalize hS : a = s at *
  refine ⟨⟨⟨0, []⟩, ⟨.start s, by simp⟩, ⟨rfl, rfl⟩, rfl⟩, fun z hz => ⟨fun hlt => ?_, fun hge => ?_⟩⟩
  ·have hk : 6 * z.k < s.length := by omega
   have ht : ((s.length : Int) - 6 * (z.k : Int)).toNat = s.length - 6 * z.k := by omega
   rw [ht]
   refine ⟨⟨by omega, by omega⟩, ⟨s.length - 6 * z.k - 6, ⟨⟨Nat.le_refl _, by omega⟩, ?_, by split <;> omega⟩, rfl, fun _ _ _ _ => trivial⟩, fun i ⟨i1, i2⟩ => ⟨fun hi2 => ?_, fun hi2 => ?_⟩⟩
   ·rw [List.drop_of_length_le (by rw [List.length_take]; omega)]; rfl
   ·have hd := hs (s.getD i 0) (by rw [List.getD_eq_getElem?_getD, List.getElem?_eq_getElem (by omega)]; exact List.getElem_mem _)
    have hdi := yR.1 hd
    have b1 := Tl hs (k := z.k) i2
    have hst : (zm (Yo s z.k (i + 1)) : Int) = 10 * (zm (Yo s z.k i) : Int) + (((s.getD i 0).toNat : Int) - 48) := by
     rw [te (by omega) i1, Y5]
     unfold vZ
     omega
    have ec : ∀ i, (s.take i).drop (s.length - 6 * z.k - 6) = Yo s z.k i := fun i => rfl
    simp only [ec]
    exact ⟨⟨by omega, by omega⟩, ⟨by omega, by omega⟩, ⟨by omega, by omega⟩, ⟨by omega, by omega⟩, ⟨by omega, by omega⟩, ⟨by omega, by omega⟩, i + 1, ⟨⟨⟨by omega, by omega⟩, by omega⟩, hst.symm, by omega⟩, rfl, fun _ _ _ _ => trivial⟩
   ·have hlen := hz.len
    refine ⟨by omega, ⟨by omega, by omega⟩, ⟨z.k + 1, z.L ++ [(zm (Yo s z.k (s.length - 6 * z.k)) : Int)]⟩, ⟨⟨hz.step hs hk, by simp only; omega⟩, by simp only; omega⟩, ⟨rfl, by simp⟩, by simp, fun x y hx _ => ?_⟩
    have ei : i = s.length - 6 * z.k := by omega
    subst ei
    split
    ·rename_i hlt2
     rw [List.getD_eq_getElem?_getD, List.getD_eq_getElem?_getD, List.getElem?_append_left hlt2]; exact zr _
    ·rename_i hge2
     have ex : x = z.L.length := by omega
     subst ex
     show zB _ (AV.v (Value.int .i64 ((z.L ++ [(zm (Yo s z.k (s.length - 6 * z.k)) : Int)]).getD z.L.length 0)))
     rw [List.getD_eq_getElem?_getD, List.getElem?_append_right (Nat.le_refl _), Nat.sub_self]
     exact zr _
  ·have he := hz.end_ (by omega)
   rw [he, show (zV s).natAbs = zm s by rw [hp3]; omega]
   exact ⟨hp4.symm, fun h => h, rfl, fun _ _ _ _ => rfl⟩
theorem L9 (a : List UInt8) (hi : zC a = true) (hl : a.length ≤ 4294967280) : zT Tryz.prog [] 115 [.str a] (.agg 2 (zt [.b (a.getD 0 0 == 45), ZF (zw 1000000 (zV a).natAbs)])) :=
 zU (T := T0.plus 173 xj) (an := OC a) mixed (zZ.plus zq wZ) (Eq.mp (by kernel_rfl) (O6 a hi hl))
theorem qh : zQ Tryz.prog [] 115 Vv := by
 intro xs ps r h hp
 unfold Vv at h
 split at h
 ·skip
  rename_i a
  cases h
  obtain ⟨q0, q1, -⟩ := Zo hp
  exact weaken (ys := [.str a]) ⟨zr _, trivial⟩ (L9 a q0 q1)
 ·cases h
end Go.Te
