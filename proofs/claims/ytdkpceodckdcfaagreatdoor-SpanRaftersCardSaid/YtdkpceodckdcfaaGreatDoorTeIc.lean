/- integer: Check, small; what they use of strings and strconv. -/
import Derived.Test.YtdkpceodckdcfaaGreatDoorTeIa
import Derived.Test.YtdkpceodckdcfaaGreatDoorArO
import Derived.Test.YtdkpceodckdcfaaGreatDoorSxS
import Derived.Shelf.Strings.Builder1
import Derived.Test.YtdkpceodckdcfaaGreatDoorProg
import Derived.Test.YtdkpceodckdcfaaGreatDoorSxU
import Derived.Test.YtdkpceodckdcfaaGreatDoorTeJ
set_option linter.unusedSimpArgs false
set_option linter.unusedVariables false
namespace Go.Te
open Go Go.Sx Go.Proofs Go.Ar Go.RowKit
set_option maxRecDepth 100000
set_option maxHeartbeats 4000000
def hp_t : List AV → Option (List Cond × AV)
 | [.str s, .str p] => some ([], .b (Lib.hasPrefix s p))
 | _ => none
theorem hp_T : PureT Tryz.prog [] 151 hp_t := by
 intro xs ps r h hp
 unfold hp_t at h
 split at h
 ·rename_i s p
  cases h
  refine ⟨enters_of Tryz.func151 (by kernel_rfl) rfl, fun w S vals hS hg hr => ?_⟩
  match vals, hr with
  | [v, v2], ⟨hv, hv2, _⟩ =>
  obtain rfl := rel_str hv
  obtain rfl := rel_str hv2
  refine (Tryz.stringslite_HasPrefix ⟨s.toArray⟩ ⟨p.toArray⟩ w).mono ?_
  rintro e w' ⟨rfl, rfl⟩
  exact ⟨⟨Below.refl _ _, Nat.le_refl _⟩, _, rfl, .v _⟩
 ·cases h
theorem hp_min (s : Str) : Lib.hasPrefix s [45] = minB s := by
 unfold Lib.hasPrefix minB
 match s with
 | [] => rfl
 | c :: r => simp [List.isPrefixOf, Bool.beq_comm]
noncomputable def Thp : Tb := (T0.plus 151 hp_t).body Tryz.prog [(101, .auto), (241, .auto)]
theorem Thp_sound : TbSound Tryz.prog Thp := TbSound.body mixed (TbSound.plus tb0_sound hp_T) _
def dash_t (g : Str → AV) : List AV → Option (List Cond × AV)
 | [.str s, .str p] => some ([.b (p == [45])], g s)
 | _ => none
theorem dash_T {f : FuncId} {g : Str → AV} (hf : ∀ s : Str, PureCall Tryz.prog [] f [.str s, .str [45]] (g s)) : PureT Tryz.prog [] f (dash_t g) := by
 intro xs ps r h hp
 unfold dash_t at h
 split at h
 ·rename_i s p
  cases h
  have q : (p == [45]) = true := hp _ List.mem_cons_self
  obtain rfl := eq_of_beq q
  exact hf s
 ·cases h
theorem ownS_t {s : Str} (h : minB s = true) : s.drop 1 = ownS s ∧ 1 ≤ s.length := by
 refine ⟨by unfold ownS; rw [h]; rfl, ?_⟩
 match s, h with
 | [], h => cases h
 | c :: r, _ => simp
theorem ownS_f {s : Str} (h : minB s = false) : s = ownS s := by unfold ownS; rw [h]; rfl
theorem trimP_vc (s : Str) :
 bndL [AV.str s, AV.str [(45 : UInt8)]] → bsplit (Lib.hasPrefix s [(45 : UInt8)]) (bsplit (DB.db (iZ ≤ (↑1 : Int) ∧ (↑1 : Int) ≤ (lZ s))) (List.drop 1 s = ownS s) False) (s = ownS s) := by
 delta lZ iZ
 intro hb
 simp only [sS, dS, hp_min]
 refine bsplit_iff.2 ⟨fun c => ?_, fun c => ownS_f c⟩
 obtain ⟨h1, h2⟩ := ownS_t c
 exact ⟨⟨by omega, by omega⟩, h1⟩
theorem cutP_vc (s : Str) :
 bndL [AV.str s, AV.str [(45 : UInt8)]] → bsplit (!Lib.hasPrefix s [(45 : UInt8)]) (j2 ∧ (True ∧ s = ownS s) ∧ false = minB s) (bsplit (DB.db (iZ ≤ (↑1 : Int) ∧ (↑1 : Int) ≤ (lZ s))) (j2 ∧ (True ∧ List.drop 1 s = ownS s) ∧ true = minB s) False) := by
 delta j2 lZ iZ
 intro hb
 simp only [sS, dS, hp_min]
 refine bsplit_iff.2 ⟨fun c => ?_, fun c => ?_⟩
 ·rw [Bool.not_eq_true'] at c
  exact ⟨rfl, ownS_f c, c.symm⟩
 ·rw [Bool.not_eq_false'] at c
  obtain ⟨h1, h2⟩ := ownS_t c
  exact ⟨⟨by omega, by omega⟩, rfl, h1, c.symm⟩
theorem hasP_vc (s : Str) :
 bndL [AV.str s, AV.str [(45 : UInt8)]] → Lib.hasPrefix s [(45 : UInt8)] = minB s := by
 intro hb
 simp only [sS, dS, hp_min]
theorem trimP_T : PureT Tryz.prog [] 44 (dash_t fun s => .str (ownS s)) :=
 dash_T fun s => pure_of_vc mixed Thp_sound (Eq.mp (by kernel_rfl) (trimP_vc s) : vcFn Tryz.prog Thp 44 .auto [.str s, .str [45]] (.str (ownS s)))
theorem cutP_T : PureT Tryz.prog [] 210 (dash_t fun s => .tup 2 (listFn [.str (ownS s), .b (minB s)])) :=
 dash_T fun s => pure_of_vc mixed Thp_sound (Eq.mp (by kernel_rfl) (cutP_vc s) : vcFn Tryz.prog Thp 210 .auto [.str s, .str [45]] (.tup 2 (listFn [.str (ownS s), .b (minB s)])))
theorem hasP_T : PureT Tryz.prog [] 189 (dash_t fun s => .b (minB s)) :=
 dash_T fun s => pure_of_vc mixed Thp_sound (Eq.mp (by kernel_rfl) (hasP_vc s) : vcFn Tryz.prog Thp 189 .auto [.str s, .str [45]] (.b (minB s)))
def dg10 : Str := [48, 49, 50, 51, 52, 53, 54, 55, 56, 57]
theorem dg10_iff (c : UInt8) : dg10.contains c = isDg c := by
 have key : ∀ n : Fin 256, dg10.contains (UInt8.ofNat n.val) = isDg (UInt8.ofNat n.val) := by decide +kernel
 have := key ⟨c.toNat, c.toNat_lt⟩
 simpa using this
theorem dropW_nil {p : UInt8 → Bool} : ∀ {l : Str}, l.dropWhile p = [] ↔ l.all p = true
 | [] => by simp
 | c :: r => by
  rw [List.dropWhile_cons, List.all_cons]
  cases h : p c with
  | true => simp only [if_true, Bool.true_and]; exact dropW_nil
  | false => simp
theorem dropW_head {p : UInt8 → Bool} : ∀ {l : Str} {c : UInt8} {r : Str}, l.dropWhile p = c :: r → p c = false
 | [], _, _, h => by cases h
 | x :: l, c, r, h => by
  rw [List.dropWhile_cons] at h
  cases hx : p x with
  | true => rw [hx, if_pos rfl] at h; exact dropW_head h
  | false => rw [hx] at h; simp only [Bool.false_eq_true, if_false, List.cons.injEq] at h; rw [← h.1]; exact hx
theorem trimS_nil (s : Str) : (Lib.trimS s dg10 == []) = s.all isDg := by
 have hp : (fun c => dg10.contains c) = isDg := funext dg10_iff
 unfold Lib.trimS Lib.trimLeftS Lib.trimRightS
 rw [hp, Bool.eq_iff_iff, beq_iff_eq, dropW_nil, List.all_reverse]
 constructor
 ·intro h
  rw [← List.all_reverse, ← dropW_nil]
  cases hd : s.reverse.dropWhile isDg with
  | nil => rfl
  | cons c r =>
   rw [hd, List.all_cons, dropW_head hd] at h
   cases h
 ·intro h
  rw [dropW_nil.2 (by rw [List.all_reverse]; exact h)]
  rfl
def trim_t : List AV → Option (List Cond × AV)
 | [.str s, .str c] => some ([.b (c == dg10), .p (s.length ≤ 4294967280)], .str (Lib.trimS s dg10))
 | _ => none
theorem trim_T : PureT Tryz.prog [] 238 trim_t := by
 intro xs ps r h hp
 unfold trim_t at h
 split at h
 ·rename_i s c
  cases h
  have q : (c == dg10) = true := hp _ List.mem_cons_self
  have hl : s.length ≤ 4294967280 := hp _ (List.mem_cons_of_mem _ List.mem_cons_self)
  obtain rfl := eq_of_beq q
  refine ⟨enters_of Tryz.func238 (by kernel_rfl) rfl, fun w S vals hS hg hr => ?_⟩
  match vals, hr with
  | [v, v2], ⟨hv, hv2, _⟩ =>
  obtain rfl := rel_str hv
  obtain rfl := rel_str hv2
  have hsz : (⟨s.toArray⟩ : ByteArray).size = s.length := rfl
  by_cases h0 : s.length = 0
  ·refine (Any.strings_Trim_empty Tryz.lays160 ⟨s.toArray⟩ ⟨dg10.toArray⟩ w (.inl h0)).mono ?_
   rintro e w' ⟨rfl, rfl⟩
   have he : s = [] := List.eq_nil_of_length_eq_zero h0
   subst he
   exact ⟨⟨Below.refl _ _, Nat.le_refl _⟩, _, rfl, .str _⟩
  ·refine (Any.strings_Trim_set Tryz.lays160 (by intro w; kernel_rfl) (by kernel_rfl) ⟨s.toArray⟩ ⟨dg10.toArray⟩ w (by decide) (by omega) (by omega) (by decide) (by
    intro j b hj
    have : b ∈ dg10 := List.mem_of_getElem? hj
    revert this
    exact (show ∀ x ∈ dg10, x.toNat < 128 by decide) b)).mono ?_
   rintro e w' ⟨rfl, q, rfl⟩
   refine ⟨⟨⟨rfl, rfl, rfl, ?_, fun b hb => ?_⟩, Nat.le_add_right _ _⟩, _, rfl, .str _⟩
   ·show w.heap.size ≤ ((w.heap.push _).push _).size
    rw [Array.size_push, Array.size_push]; omega
   ·show ((w.heap.push _).push _)[b]? = _
    rw [Array.getElem?_push, if_neg (by rw [Array.size_push]; omega), Array.getElem?_push, if_neg (by omega)]
 ·cases h
theorem digitVal_dg {c : UInt8} (h : isDg c = true) : Lib.digitVal c = some (dgV c) := by
 have key : ∀ n : Fin 256, isDg (UInt8.ofNat n.val) = true → Lib.digitVal (UInt8.ofNat n.val) = some (dgV (UInt8.ofNat n.val)) := by decide +kernel
 have := key ⟨c.toNat, c.toNat_lt⟩
 simp only [UInt8.ofNat_toNat] at this
 exact this h
theorem decFrom_dg : ∀ {l : Str} (a : Nat), (∀ c ∈ l, isDg c = true) → Lib.decFrom a l = some (a * 10 ^ l.length + decV l)
 | [], a, _ => by simp [Lib.decFrom, decV]
 | c :: r, a, h => by
  unfold Lib.decFrom
  rw [digitVal_dg (h c List.mem_cons_self)]
  simp only
  rw [decFrom_dg _ fun x hx => h x (List.mem_cons_of_mem _ hx), decV_cons, List.length_cons, Nat.pow_succ, Nat.add_mul]
  congr 1
  rw [Nat.mul_assoc, Nat.mul_comm 10, Nat.add_assoc]
theorem decNat_dg {l : Str} (h : digS l = true) : Lib.decNat l = some (decV l) := by
 obtain ⟨h1, h2, _⟩ := digS_iff.1 h
 unfold Lib.decNat
 rw [show l.isEmpty = false by cases l with | nil => cases h1 | cons c r => rfl]
 simp only [Bool.false_eq_true, if_false]
 rw [decFrom_dg 0 h2, Nat.zero_mul, Nat.zero_add]
theorem atoi_int {s : Str} (h : intB s = true) : Lib.atoi s = some (valI s) := by
 rcases intB_cases h with ⟨r, rfl, h1, _, h3⟩ | ⟨h1, h3⟩
 ·rw [h3]
  show (Lib.decNat r).map (fun (m : Nat) => -(m : Int)) = _
  rw [decNat_dg h1]; rfl
 ·rw [h3]
  obtain ⟨h4, h5, _⟩ := digS_iff.1 h1
  match s, h4, h5, h1 with
  | c :: r, _, h5, h1 =>
   have hc := isDg_iff.1 (h5 c List.mem_cons_self)
   show (if c == 45 then _ else if c == 43 then _ else (Lib.decNat (c :: r)).map fun (m : Nat) => (m : Int)) = _
   rw [if_neg (by rw [beq_iff_eq]; intro e; subst e; exact absurd hc.1 (by decide)), if_neg (by rw [beq_iff_eq]; intro e; subst e; exact absurd hc.1 (by decide)), decNat_dg h1]; rfl
def atoi_t : List AV → Option (List Cond × AV)
 | [.str s] => some ([.b (intB s), .p (s.length ≤ 18)], .tup 2 (listFn [.i (valI s), .v .nilIface]))
 | _ => none
theorem atoi_T : PureT Tryz.prog [] 119 atoi_t := by
 intro xs ps r h hp
 unfold atoi_t at h
 split at h
 ·rename_i s
  cases h
  have q : intB s = true := hp _ List.mem_cons_self
  have hl : s.length ≤ 18 := hp _ (List.mem_cons_of_mem _ List.mem_cons_self)
  refine ⟨enters_of Tryz.func119 (by kernel_rfl) rfl, fun w S vals hS hg hr => ?_⟩
  match vals, hr with
  | [v], ⟨hv, _⟩ =>
  obtain rfl := rel_str hv
  refine (Tryz.strconv_Atoi ⟨s.toArray⟩ (valI s) hl (atoi_int q) w).mono ?_
  rintro e w' ⟨rfl, t, rfl⟩
  refine ⟨⟨⟨?_, ?_, ?_, by rw [Lib.bytesWorld_size]; omega, fun b hb => Lib.bytesWorld_at_old w 5 t b hb⟩, ?_⟩, _, rfl, ?_⟩
  ·rfl
  ·rfl
  ·rfl
  ·show w.drawn ≤ w.drawn + 1
   omega
  ·exact .tup _ rfl fun i hi => by
    match i, hi with
    | 0, _ => exact .v _
    | 1, _ => exact .v _
 ·cases h
end Go.Te

namespace Go.Te
open Go Go.Sx Go.Proofs Go.Ar
set_option maxRecDepth 100000
set_option maxHeartbeats 4000000
theorem int_own (a : Str) : intB a = !(ownS a == [] || (ownS a).getD 0 0 == 48 && !(a == [48]) || !(ownS a).all isDg) ∧ lenD a = (ownS a).length := by
 match a with
 | [] => exact ⟨rfl, rfl⟩
 | c :: r =>
  by_cases hc : c = 45
  ·subst hc
   have h1 := int_minus (a := 45 :: r) (by simp) rfl
   have ho : ownS (45 :: r) = r := rfl
   rw [ho, h1.2.1, h1.2.2.1]
   refine ⟨?_, by simp⟩
   show (digS r && !(r == [48])) = _
   rw [show ((45 :: r : Str) == [48]) = false from rfl]
   unfold digS
   match r with
   | [] => rfl
   | [d] =>
    cases hd : isDg d <;> cases h48 : d == 48 <;> simp_all
   | d :: e :: t =>
    simp only [List.length_cons, List.getD_cons_zero, Bool.not_false, Bool.and_true]
    rw [(blt_iff _ _).2 (by omega), (blt_iff _ _).2 (by omega), show ((d :: e :: t : Str) == []) = false from rfl, show ((d :: e :: t : Str) == [48]) = false by simp]
    cases (d :: e :: t).all isDg <;> cases d == 48 <;> rfl
  ·have hm : minB (c :: r) = false := beq_eq_false_iff_ne.2 hc
   have ho : ownS (c :: r) = c :: r := by unfold ownS; rw [hm]; rfl
   obtain ⟨h1, h2, _⟩ := int_plain (a := c :: r) fun h => hc h.2
   rw [ho, h1, h2]
   refine ⟨?_, rfl⟩
   unfold digS
   match r with
   | [] =>
    cases hd : isDg c <;> cases h48 : c == 48 <;> simp_all
    rfl
   | e :: t =>
    simp only [List.length_cons, List.getD_cons_zero]
    rw [(blt_iff _ _).2 (by omega), (blt_iff _ _).2 (by omega), show ((c :: e :: t : Str) == []) = false from rfl, show ((c :: e :: t : Str) == [48]) = false by simp]
    cases (c :: e :: t).all isDg <;> cases c == 48 <;> rfl
noncomputable def Tic : Tb := (T0.plus 44 (dash_t fun s => .str (ownS s))).plus 238 trim_t
theorem Tic_sound : TbSound Tryz.prog Tic := TbSound.plus (TbSound.plus tb0_sound trimP_T) trim_T
def icheck_t : List AV → Option (List Cond × AV)
 | [.str a] => some ([.p (a.length ≤ 4294967280)], .i (intE a))
 | _ => none
theorem icheck_vc (a : List UInt8) (hl : a.length ≤ 4294967280) :
 let q2 := (ownS a == Array.toList (ByteArray.data (ByteArray.mk #[]))); let q1 := (!bsel false q2 || bsel false q2); let q4 := (↑(UInt8.toNat (gD (ownS a) 0 (0 : UInt8))) : Int); let q3 := (q4 == (48 : Int)); let q7 := (ByteArray.data (ByteArray.mk #[(48 : UInt8)])); let q6 := (bif ownS a == Array.toList (ByteArray.data (ByteArray.mk #[])) then true else bif q4 == (48 : Int) then !a == Array.toList q7 else false); let q5 := (!bsel false q6 || bsel false q6); bndL [AV.str a] → bsplit q1 (bsplit (!bsel false q2 || DB.db (iZ ≤ iZ ∧ iZ < (lZ (ownS a))))
 (bsplit q1 (bsplit q1 (bsplit (!(bsel false q2 && bsel true q3) || bsel false q2 && bsel true q3) (bsplit q1 (bsplit (!bsel false q2 || (!q4 == (48 : Int) || bsel false q2 && bsel true q3)) (bsplit (!!ownS a == Array.toList (ByteArray.data (ByteArray.mk #[])) || bsel false q2) (bsplit q5 (bsplit (!bsel false q6 || Array.toList (ByteArray.data (ByteArray.mk #[(48 : UInt8), (49 : UInt8), (50 : UInt8), (51 : UInt8), (52 : UInt8), (53 : UInt8), (54 : UInt8), (55 : UInt8), (56 : UInt8), (57 : UInt8)])) == dg10) ((bsel false q6 = true → lN (ownS a) ≤ 4294967280) ∧ bsplit q5 (bsplit ((!!bif
 ownS a == Array.toList (ByteArray.data (ByteArray.mk #[])) then true else bif q4 == (48 : Int) then !a == Array.toList q7 else false) || bsel false q6) (bsplit (bif bif ownS a == Array.toList (ByteArray.data (ByteArray.mk #[])) then true else bif q4 == (48 : Int) then !a == Array.toList q7 else false then true else !Lib.trimS (ownS a) dg10 == Array.toList (ByteArray.data (ByteArray.mk #[]))) (kI ∧ (11 : Int) = intE a) (bsplit (ltB (300 : Int) (lZ (ownS a))) (kI ∧ (4 : Int) = intE a) (kI ∧ iZ = intE a))) False) False)
 False) False) False) False) False) False) False) False) False) False := by
 delta kI lZ lN gD iZ
 dsimp only
 intro hb
 simp only [sS, dS]
 have h48 : ((((ownS a).getD 0 0).toNat : Int) == 48) = ((ownS a).getD 0 0 == 48) := byte_eq ((ownS a).getD 0 0) 48 (by decide)
 obtain ⟨hI, hL⟩ := int_own a
 have hol := ownS_len a
 rw [show (([48, 49, 50, 51, 52, 53, 54, 55, 56, 57] : Str) == dg10) = true from rfl, trimS_nil, h48]
 have e1 : (!(ownS a == [])) = true → 0 < (ownS a).length := fun h => by
  match hs : ownS a, h with
  | c :: r, _ => simp
 refine ⟨fun h => ⟨Int.le_refl _, by have := e1 h; omega⟩, ?_⟩
 refine bsp_t (by cases ownS a == [] <;> cases (ownS a).getD 0 0 == 48 <;> rfl) ?_
 refine bsp_t (by cases ownS a == [] <;> cases (ownS a).getD 0 0 == 48 <;> cases a == [48] <;> rfl) ?_
 refine ⟨fun _ => by omega, bsplit_iff.2 ⟨fun c => ?_, fun c => ?_⟩⟩
 ·rw [c] at hI
  exact (intE_not (by rw [hI]; decide)).symm
 ·rw [c] at hI
  rw [intE_of hI, hL]
  refine ⟨fun h => ?_, fun h => ?_⟩
  ·rw [(blt_iff _ _).2 (by omega)]; rfl
  ·rw [show Nat.blt 300 (ownS a).length = false from Bool.eq_false_iff.2 fun e => by have := (blt_iff _ _).1 e; omega]; rfl
theorem icheck_C (a : List UInt8) (hl : a.length ≤ 4294967280) : PureCall Tryz.prog [] 204 [.str a] (.i (intE a)) :=
 pure_of_vc (T := Tic) (an := .auto) mixed Tic_sound (Eq.mp (by kernel_rfl) (icheck_vc a hl))
theorem icheck_T : PureT Tryz.prog [] 204 icheck_t := by
 intro xs ps r h hp
 unfold icheck_t at h
 split at h
 ·skip
  rename_i a
  cases h
  obtain ⟨q0, -⟩ := allC hp
  exact weaken (ys := [.str a]) ⟨avM_refl _, trivial⟩ (icheck_C a q0)
 ·cases h
def iboth_t : List AV → Option (List Cond × AV)
 | [.str a, .str b] => some ([.p (a.length ≤ 4294967280), .p (b.length ≤ 4294967280)], .i (bothE a b))
 | _ => none
theorem iboth_vc (a : List UInt8) (b : List UInt8) (hl : a.length ≤ 4294967280) (hm : b.length ≤ 4294967280) :
 bndL [AV.str a, AV.str b] → lN a ≤ 4294967280 ∧ bsplit (intE a != iZ) (kI ∧ intE a = bothE a b) (lN b ≤ 4294967280 ∧ kI ∧ intE b = bothE a b) := by
 delta kI lN iZ
 intro hb
 simp only [sS, dS]
 exact ⟨hl, fun h => by unfold bothE; rw [bne_iff_ne.2 h]; rfl, fun h => ⟨hm, by unfold bothE; rw [h]; rfl⟩⟩
theorem iboth_C (a : List UInt8) (b : List UInt8) (hl : a.length ≤ 4294967280) (hm : b.length ≤ 4294967280) : PureCall Tryz.prog [] 146 [.str a, .str b] (.i (bothE a b)) :=
 pure_of_vc (T := T0.plus 204 icheck_t) (an := .auto) mixed (TbSound.plus tb0_sound icheck_T) (Eq.mp (by kernel_rfl) (iboth_vc a b hl hm))
theorem iboth_T : PureT Tryz.prog [] 146 iboth_t := by
 intro xs ps r h hp
 unfold iboth_t at h
 split at h
 ·skip
  rename_i a b
  cases h
  obtain ⟨q0, q1, -⟩ := allC hp
  exact weaken (ys := [.str a, .str b]) ⟨avM_refl _, avM_refl _, trivial⟩ (iboth_C a b q0 q1)
 ·cases h
def ismall_t : List AV → Option (List Cond × AV)
 | [.str a, .str b, .v (.int .i64 m)] => some ([.p (intB a = true), .p (intB b = true), .p (m = 18)], .tup 3 (listFn [.i (bif leB a.length 18 && leB b.length 18 then valI a else 0), .i (bif leB a.length 18 && leB b.length 18 then valI b else 0), .b (leB a.length 18 && leB b.length 18)]))
 | _ => none
theorem ismall_vc (a : List UInt8) (b : List UInt8) (m : Int) (ha : intB a = true) (hb' : intB b = true) (hm : m = 18) :
 bndL [AV.str a, AV.str b, aI m] → bsplit (!bsel false (ltB m (lZ a)) || bsel false (ltB m (lZ a))) (bsplit (!bsel false (ltB m (lZ a)) || bsel false (ltB m (lZ a))) (bsplit (!bsel false (ltB m (lZ a)) || bsel false (ltB m (lZ a))) (bsplit (!!ltB m (lZ a) || bsel false (ltB m (lZ a))) (bsplit (bif ltB m (lZ a) then true else ltB m (lZ b)) (3 = lN [AV.junk, AV.junk, AV.junk] ∧ ((True ∧
 kI ∧ iZ = bif leB (lZ a) (18 : Int) && leB (lZ b) (18 : Int) then valI a else iZ) ∧ kI ∧ iZ = bif leB (lZ a) (18 : Int) && leB (lZ b) (18 : Int) then valI b else iZ) ∧ false = (leB (lZ a) (18 : Int) && leB (lZ b) (18 : Int))) (bsplit (intB a) (lN a ≤ 18 ∧ bsplit (intB b) (lN b ≤ 18 ∧ 3 = lN [AV.junk, AV.junk, AV.junk] ∧ ((True ∧ kI ∧ valI a = bif leB (lZ a) (18 : Int)
 && leB (lZ b) (18 : Int) then valI a else iZ) ∧ kI ∧ valI b = bif leB (lZ a) (18 : Int) && leB (lZ b) (18 : Int) then valI b else iZ) ∧ (bif true then true else false) = (leB (lZ a) (18 : Int) && leB (lZ b) (18 : Int))) False) False)) False) False) False) False := by
 delta kI lZ lN iZ aI
 intro hb
 simp only [sS, dS]
 subst hm
 have e : (ltB 18 (a.length : Int) || ltB 18 (b.length : Int)) = !(leB (a.length : Int) 18 && leB (b.length : Int) 18) := by
  rw [Bool.eq_iff_iff, Bool.or_eq_true, ltB_iff, ltB_iff, Bool.not_eq_true', Bool.and_eq_false_iff, Bool.eq_false_iff, Bool.eq_false_iff, Ne, Ne, leB_iff, leB_iff]
  omega
 rw [e]
 refine bsplit_iff.2 ⟨fun c => ?_, fun c => ?_⟩
 ·rw [Bool.not_eq_true'] at c
  rw [c]
  exact ⟨rfl, ⟨rfl, rfl⟩, rfl⟩
 ·rw [Bool.not_eq_false'] at c
  have c' := c
  rw [Bool.and_eq_true, leB_iff, leB_iff] at c'
  rw [c, ha, hb', vc_tt, vc_tt]
  exact ⟨by omega, by omega, rfl, ⟨rfl, rfl⟩, rfl⟩
theorem ismall_C (a : List UInt8) (b : List UInt8) (m : Int) (ha : intB a = true) (hb' : intB b = true) (hm : m = 18) : PureCall Tryz.prog [] 147 [.str a, .str b, .i m] (.tup 3 (listFn [.i (bif leB a.length 18 && leB b.length 18 then valI a else 0), .i (bif leB a.length 18 && leB b.length 18 then valI b else 0), .b (leB a.length 18 && leB b.length 18)])) :=
 pure_of_vc (T := T0.plus 119 atoi_t) (an := .auto) mixed (TbSound.plus tb0_sound atoi_T) (Eq.mp (by kernel_rfl) (ismall_vc a b m ha hb' hm))
theorem ismall_T : PureT Tryz.prog [] 147 ismall_t := by
 intro xs ps r h hp
 unfold ismall_t at h
 split at h
 ·skip
  rename_i a b m
  cases h
  obtain ⟨q0, q1, q2, -⟩ := allC hp
  exact weaken (ys := [.str a, .str b, .i m]) ⟨avM_refl _, avM_refl _, avM_refl _, trivial⟩ (ismall_C a b m q0 q1 q2)
 ·cases h
def isS (l : Str) : AV → Bool
 | .str s => s == l
 | _ => false
theorem isS_avM {l : Str} (x : AV) (h : isS l x = true) : avM x (.str l) := by
 unfold isS at h
 split at h
 ·rw [eq_of_beq h]; exact avM_refl _
 ·cases h
end Go.Te

namespace Go.Te
open Go Go.Sx Go.Proofs Go.Ar
set_option maxRecDepth 100000
set_option maxHeartbeats 4000000
theorem own_digs {a : Str} (h : intB a = true) : digS (ownS a) = true ∧ (valI a).natAbs = decV (ownS a) := by
 rcases intB_cases h with ⟨r, rfl, h1, _, h3⟩ | ⟨h1, h3⟩
 ·exact ⟨h1, by rw [h3]; show _ = decV r; omega⟩
 ·have hm : minB a = false := by
   unfold minB
   rw [beq_eq_false_iff_ne]
   intro e
   have h0 := (digS_iff.1 h1).1
   have := (digS_iff.1 h1).2.1 _ (getD_mem (s := a) (i := 0) h0)
   rw [e] at this
   cases this
  rw [← ownS_f hm]
  exact ⟨h1, by rw [h3]; omega⟩
structure RdS where
 z : Nat
 u : Int
 L : List Int
noncomputable def Trd : Tb := ((T0.plus 210 (dash_t fun s => .tup 2 (listFn [.str (ownS s), .b (minB s)]))).plus 212 itrim_t).body Tryz.prog [(211, .auto)]
theorem Trd_sound : TbSound Tryz.prog Trd := TbSound.body mixed (TbSound.plus (TbSound.plus tb0_sound cutP_T) itrim_T) _
def iread_it (a : Str) : Ann :=
 .two .auto (.one (.loop RdS (fun σ z => [(0, σ.tm 0), (1, σ.tm 1), (5, σ.tm 5), (6, .i z.z)]) (fun _ z => [(1, iArr z.L), (3, .box 3 1 fun _ => .i z.u)]) 0
  (fun _ z => RdZ 9 (ownS a) z.z z.L ∧ (z.z % 9 ≠ 0 → z.u = 10 ^ (z.z % 9)) ∧ 1 ≤ z.u ∧ z.u ≤ 1000000000) (fun _ z => (ownS a).length - z.z) .auto))
def iread_an (a : Str) : Ann :=
 .two .auto (.two .auto (.two .auto (.two .auto (.two (.two .auto (.one (.range (iread_it a) .auto .auto))) .auto))))
def iread_t : List AV → Option (List Cond × AV)
 | [.str a] => some ([.p (intB a = true), .p (a.length ≤ 100000000)], .agg 2 (listFn [.b (minB a), slE (limbs 1000000000 (valI a).natAbs)]))
 | _ => none
theorem iread_vc (a : List UInt8) (hi : intB a = true) (hl : a.length ≤ 100000000) :
 let q1 := ((lZ (ownS a)) + (9 : Int) - iO); let q2 := (Int.tdiv q1 (9 : Int)); let q3 := (kI ∧ (lZ (ownS a)) = (lZ (ownS a))); let q4 := (180 = 180 ∧ 2 = 2 ∧ false = false ∧ Value.slice (Non Addr) 0 0 = Array.getD (Value.cells (Value.agg #[Value.bool false, Value.slice (Non Addr) 0 0])) (nat_lit 1) undef); let q9 := (Int.toNat q2); let q15 := (limbs 1000000000 (Int.natAbs (valI a))); bndL [AV.str a] → bsplit (DB.db (inK .i64 ((lZ (ownS a)) + (9 : Int)))) (bsplit (DB.db (inK .i64 q1)) (bsplit (DB.db
 (inK .i64 q2)) (bsplit (DB.db (iZ ≤ Int.tdiv q1 (9 : Int) ∧ Int.tdiv q1 (9 : Int) ≤ Int.tdiv q1 (9 : Int) ∧ (↑8 : Int) * Int.tdiv q1 (9 : Int) ≤ (140737488355328 : Int))) ((∃ (z : RdS), ((RdZ 9 (ownS a) (RdS.z z) (RdS.L z) ∧ (RdS.z z % 9 ≠ 0 → RdS.u z = (10 : Int) ^ (RdS.z z % 9)) ∧ iO ≤ RdS.u z ∧ RdS.u z ≤ iB) ∧ nat_lit 5 = 5 ∧ (nat_lit 4 = 4 ∧ 0 = 0) ∧ q3 ∧ kI ∧ iZ = (↑(RdS.z z) : Int)) ∧ ((((q4 ∧ (3 : TypeId) = 3 ∧ 1 = 1 ∧ lN (RdS.L z) = Int.toNat q2 ∧ ∀ (i j : Nat), i < Int.toNat q2 → j < 1 → avM (zcell (Value.int .i64 iZ)
 j) (aI (gD (RdS.L z) i iZ))) ∧ 180 = 180 ∧ 2 = 2 ∧ minB a = minB a ∧ nat_lit 1 = 1 ∧ 0 = 0 ∧ Int.toNat q2 = Int.toNat q2) ∧ (3 : TypeId) = 3 ∧ 1 = 1 ∧ kI ∧ iO = RdS.u z) ∧ 9 = 9 ∧ 1 = 1 ∧ ownS a = ownS a) ∧ LoopState.ready = LoopState.ready ∧ Non Code = Non Code) ∧ ∀ (z : RdS), let q5 := ((lZ (ownS a)) - iO - (↑(RdS.z z) : Int)); let q6 := ((↑(UInt8.toNat (gD (ownS a) (Int.toNat q5) (0 : UInt8))) : Int) - (48 : Int)); let q7 := (DB.db (inK .i64 (Int.tdiv (↑(RdS.z z) : Int) (9 : Int)))); let q8 := (DB.db ((0
 : Int) ≤ Int.tdiv (↑(RdS.z z) : Int) (9 : Int) ∧ Int.tdiv (↑(RdS.z z) : Int) (9 : Int) < (↑q9 : Int))); let q11 := (0 + Int.toNat (Int.tdiv (↑(RdS.z z) : Int) (9 : Int))); let q10 := (gD (RdS.L z) q11 iZ + q6 * iO); let q12 := (DB.db (inK .i64 ((↑(RdS.z z) : Int) + iO))); let q13 := (gD (RdS.L z) q11 iZ + q6 * RdS.u z); let q14 := (AV.xl false 1 q9 fun i j => aI (gD (RdS.L z) (0 + i) iZ)); let q16 := (trimL (intsOf q14)); RdZ 9 (ownS a) (RdS.z z) (RdS.L z) ∧ (RdS.z z % 9 ≠ 0 → RdS.u z = (10 : Int) ^ (RdS.z z % 9)) ∧ (1 :
 Int) ≤ RdS.u z ∧ RdS.u z ≤ iB → bsplit (ltB (↑(RdS.z z) : Int) (lZ (ownS a))) (bsplit (DB.db (inK .i64 ((lZ (ownS a)) - iO))) (bsplit (DB.db (inK .i64 q5)) (bsplit (DB.db (iZ ≤ (lZ (ownS a)) - iO - (↑(RdS.z z) : Int) ∧ (lZ (ownS a)) - iO - (↑(RdS.z z) : Int) < (lZ (ownS a)))) (bsplit (DB.db (inK IntKind.u8 q6)) (bsplit (DB.db (inK .i64 q6)) (bsplit (Int.tmod (↑(RdS.z z) : Int) (9 : Int) == iZ) (bsplit q7 (bsplit q8 (bsplit (DB.db (inK .i64 (q6 * (1 :
 Int)))) (bsplit (DB.db (inK .i64 q10)) (bsplit q8 (bsplit q12 (∃ (z' : RdS), (((RdZ 9 (ownS a) (RdS.z z') (RdS.L z') ∧ (RdS.z z' % 9 ≠ 0 → RdS.u z' = (10 : Int) ^ (RdS.z z' % 9)) ∧ iO ≤ RdS.u z' ∧ RdS.u z' ≤ iB) ∧ lN (ownS a) - RdS.z z' < lN (ownS a) - RdS.z z) ∧ nat_lit 5 = 5 ∧ (nat_lit 4 = 4 ∧ 0 = 0) ∧ q3 ∧ kI ∧ (↑(RdS.z z) : Int) + iO = (↑(RdS.z z') : Int)) ∧ ((((q4 ∧ 3 = 3 ∧ 1 = 1 ∧ lN (RdS.L z') = lN (RdS.L z) ∧ ∀ (i j : Nat), i < lN (RdS.L z) → j < 1 → avM (if i = 0 + Int.toNat (Int.tdiv (↑(RdS.z z)
 : Int) (9 : Int)) ∧ 0 ≤ j ∧ j < 1 then aI q10 else aI (gD (RdS.L z) i iZ)) (aI (gD (RdS.L z') i iZ))) ∧ 180 = 180 ∧ 2 = 2 ∧ minB a = minB a ∧ nat_lit 1 = 1 ∧ 0 = 0 ∧ Int.toNat q2 = Int.toNat q2) ∧ 3 = 3 ∧ 1 = 1 ∧ kI ∧ iO * (10 : Int) = RdS.u z') ∧ 9 = 9 ∧ 1 = 1 ∧ ownS a = ownS a) ∧ LoopState.ready = LoopState.ready ∧ Non Code = Non Code) False) False) False) False) False) False) (bsplit q7 (bsplit q8 (bsplit (DB.db (inK .i64 (q6 * RdS.u z))) (bsplit (DB.db (inK .i64 q13)) (bsplit q8
 (bsplit (DB.db (inK .i64 (RdS.u z * (10 : Int)))) (bsplit q12 (∃ (z' : RdS), (((RdZ 9 (ownS a) (RdS.z z') (RdS.L z') ∧ (RdS.z z' % 9 ≠ 0 → RdS.u z' = (10 : Int) ^ (RdS.z z' % 9)) ∧ iO ≤ RdS.u z' ∧ RdS.u z' ≤ iB) ∧ lN (ownS a) - RdS.z z' < lN (ownS a) - RdS.z z) ∧ nat_lit 5 = 5 ∧ (nat_lit 4 = 4 ∧ 0 = 0) ∧ q3 ∧ kI ∧ (↑(RdS.z z) : Int) + iO = (↑(RdS.z z') : Int)) ∧ ((((q4 ∧ 3 = 3 ∧ 1 = 1 ∧ lN (RdS.L z') = lN (RdS.L z) ∧ ∀ (i j : Nat), i < lN (RdS.L z) → j < 1 → avM (if i = 0 + Int.toNat (Int.tdiv (↑(RdS.z z)
 : Int) (9 : Int)) ∧ 0 ≤ j ∧ j < 1 then aI q13 else aI (gD (RdS.L z) i iZ)) (aI (gD (RdS.L z') i iZ))) ∧ 180 = 180 ∧ 2 = 2 ∧ minB a = minB a ∧ nat_lit 1 = 1 ∧ 0 = 0 ∧ Int.toNat q2 = Int.toNat q2) ∧ 3 = 3 ∧ 1 = 1 ∧ kI ∧ RdS.u z * (10 : Int) = RdS.u z') ∧ 9 = 9 ∧ 1 = 1 ∧ ownS a = ownS a) ∧ LoopState.ready = LoopState.ready ∧ Non Code = Non Code) False) False) False) False) False) False) False)) False) False) False) False) False) (bsplit (slOk Int q14) (2 = 2 ∧ minB a = minB a ∧ (false = true →
 false = true) ∧ 1 = 1 ∧ lN q15 = lN q16 ∧ ∀ (i j : Nat), i < lN q16 → j < 1 → kI ∧ gD q16 i Enc.dflt = gD q15 i Enc.dflt) False)) False) False) False) False := by
 delta kI lZ lN gD iZ iO iB aI
 dsimp only
 intro hb
 have e0 : (Enc.dflt : Int) = 0 := rfl
 simp only [↓vc_db, ↓vc_gdb, row_one]
 simp only [sS, dS, e0]
 have hol := ownS_len a
 have hds : digS (ownS a) = true ∧ (valI a).natAbs = decV (ownS a) := own_digs hi
 have hall := (digS_iff.1 hds.1).2.1
 have hpos := (digS_iff.1 hds.1).1
 rw [hds.2]
 generalize ownS a = s at *
 have ed : ((s.length : Int) + 9 - 1).tdiv 9 = ((s.length + 9 - 1) / 9 : Nat) := by rw [Int.tdiv_eq_ediv_of_nonneg (by omega)]; omega
 have ez : ∀ z : Nat, (z : Int).tdiv 9 = (z / 9 : Nat) := fun z => by rw [Int.tdiv_eq_ediv_of_nonneg (by omega)]; omega
 have em : ∀ z : Nat, (z : Int).tmod 9 = (z % 9 : Nat) := fun z => by rw [Int.tmod_eq_emod_of_nonneg (by omega)]; omega
 have en : ∀ z : Nat, ((s.length : Int) - 1 - (z : Int)).toNat = s.length - 1 - z := fun z => by omega
 simp only [ed, ez, em, en, Int.toNat_natCast]
 have hq : (s.length + 9 - 1) / 9 ≤ s.length := by omega
 refine ⟨⟨by omega, by omega⟩, ⟨by omega, by omega⟩, ⟨by omega, by omega⟩, ⟨by omega, Int.le_refl _, by omega⟩, ⟨⟨0, 1, List.replicate ((s.length + 9 - 1) / 9) 0⟩, ⟨⟨RdZ.start (by omega) s, fun h => absurd rfl h, by simp only; omega, by simp only; omega⟩, rfl⟩, ⟨rfl, by simp, fun i j _ hj => zeroI _ i j hj⟩, rfl⟩, fun z ⟨z1, z2, z3, z4⟩ => ⟨fun hz => ?_, fun hz => ?_⟩⟩
 ·have hc := hall _ (getD_mem (s := s) (i := s.length - 1 - z.z) (by omega))
  have hdi := isDg_iff.1 hc
  obtain ⟨l1, hs⟩ := z1.step (by omega) hall (by omega)
  have l2 := z1.len
  have g1 := hs.in_.get (by omega) (z.z / 9)
  rw [getD_setI _ _ _ _ l1, if_pos rfl] at g1
  have g0 := z1.in_.get (by omega) (z.z / 9)
  have dv : (((s.getD (s.length - 1 - z.z) 0).toNat : Int) - 48) = (dgV (s.getD (s.length - 1 - z.z) 0) : Int) := by unfold dgV; omega
  have d9 := dgV_lt hc
  rw [dv]
  generalize dgV (s.getD (s.length - 1 - z.z) 0) = d at *
  have g2 : z.L.getD (z.z / 9) 0 + (d : Int) * 10 ^ (z.z % 9) < 1000000000 := g1.2
  refine ⟨⟨by omega, by omega⟩, ⟨by omega, by omega⟩, ⟨by omega, by omega⟩, ⟨by omega, by omega⟩, ⟨by omega, by omega⟩, fun h0 => ?_, fun h0 => ?_⟩
  ·have h0' : z.z % 9 = 0 := by omega
   rw [h0', Int.pow_zero, Int.mul_one] at g2 hs
   simp only [Int.mul_one]
   refine ⟨⟨by omega, by omega⟩, ⟨by omega, by omega⟩, ⟨by omega, by omega⟩, ⟨by omega, by omega⟩, ⟨by omega, by omega⟩, ⟨by omega, by omega⟩, ⟨z.z + 1, 10, _⟩, ⟨⟨⟨hs, fun _ => ?_, by simp only; omega, by simp only; omega⟩, by simp only; omega⟩, by simp only; omega⟩, ⟨rfl, by simp, fun i j _ => setI _ _ _ l1 i j⟩, rfl⟩
   simp only
   rw [show (z.z + 1) % 9 = 1 by omega]; rfl
  ·have h0' : z.z % 9 ≠ 0 := by omega
   have hu := z2 h0'
   rw [← hu] at g2 hs
   have hm := Nat.mod_lt z.z (show 0 < 9 by omega)
   have d0 : 0 ≤ (d : Int) * z.u := Int.mul_nonneg (by omega) (by omega)
   have hu9 : z.u ≤ 100000000 := by
    rw [hu]
    have h8 : 10 ^ (z.z % 9) ≤ 100000000 := Nat.le_trans (Nat.pow_le_pow_right (by omega) (show z.z % 9 ≤ 8 by omega)) (by decide)
    have h9 := Int.ofNat_le.2 h8
    rw [Int.natCast_pow] at h9
    exact h9
   refine ⟨⟨by omega, by omega⟩, ⟨by omega, by omega⟩, ⟨by omega, by omega⟩, ⟨by omega, by omega⟩, ⟨by omega, by omega⟩, ⟨by omega, by omega⟩, ⟨by omega, by omega⟩, ⟨z.z + 1, z.u * 10, _⟩, ⟨⟨⟨hs, fun h => ?_, by simp only; omega, by simp only; omega⟩, by simp only; omega⟩, by simp only; omega⟩, ⟨rfl, by simp, fun i j _ => setI _ _ _ l1 i j⟩, rfl⟩
   simp only at h ⊢
   rw [hu, show (z.z + 1) % 9 = z.z % 9 + 1 by omega, Int.pow_succ]
 ·have ez2 : z.z = s.length := by have := z1.le; omega
  have he := (ez2 ▸ z1 : RdZ 9 s s.length z.L).end_ (by omega)
  have l2 := z1.len
  rw [← l2]
  simp only [sS, dS, e0]
  rw [show trimL z.L = limbs 1000000000 (decV s) from he]
  exact ⟨fun h => h, rfl, fun _ _ _ _ => rfl⟩
theorem iread_C (a : List UInt8) (hi : intB a = true) (hl : a.length ≤ 100000000) : PureCall Tryz.prog [] 150 [.str a] (.agg 2 (listFn [.b (minB a), slE (limbs 1000000000 (valI a).natAbs)])) :=
 pure_of_vc (T := Trd) (an := iread_an a) mixed Trd_sound (Eq.mp (by kernel_rfl) (iread_vc a hi hl))
theorem iread_T : PureT Tryz.prog [] 150 iread_t := by
 intro xs ps r h hp
 unfold iread_t at h
 split at h
 ·skip
  rename_i a
  cases h
  obtain ⟨q0, q1, -⟩ := allC hp
  exact weaken (ys := [.str a]) ⟨avM_refl _, trivial⟩ (iread_C a q0 q1)
 ·cases h
end Go.Te

namespace Go.Proofs
open Go.Shelf
def Tryz.lays169_ren : Go.Shelf.Ren := ⟨fun | 169 => 73 | n => n, fun | 70 => 105 | 9 => 9 | 0 => 0 | 72 => 108 | 37 => 106 | 127 => 161 | 3 => 3 | 5 => 5 | n => n, fun | n => n⟩
theorem Tryz.lays169 : Go.Proofs.Lays.n169 Tryz.prog Tryz.lays169_ren := {
 mixed := by kernel_rfl
 f169 := Tryz.func73.trans (congrArg some (by kernel_rfl))
 t0 := Tryz.underlying0
 a0 := Tryz.isAgg0
 z0 := Tryz.sizeOf0
 v0 := Tryz.zeroValue0
 t3 := Tryz.underlying3
 a3 := Tryz.isAgg3
 z3 := Tryz.sizeOf3
 v3 := Tryz.zeroValue3
 t9 := Tryz.underlying9
 a9 := Tryz.isAgg9
 z9 := Tryz.sizeOf9
 v9 := Tryz.zeroValue9
 t37 := Tryz.underlying106
 a37 := Tryz.isAgg106
 z37 := Tryz.sizeOf106
 v37 := Tryz.zeroValue106
 t70 := Tryz.underlying105
 a70 := Tryz.isAgg105
 z70 := Tryz.sizeOf105
 v70 := Tryz.zeroValue105
 t72 := Tryz.underlying108
 a72 := Tryz.isAgg108
 z72 := Tryz.sizeOf108
 v72 := Tryz.zeroValue108
 t127 := Tryz.underlying161
 a127 := Tryz.isAgg161
 z127 := Tryz.sizeOf161
 v127 := Tryz.zeroValue161 }
theorem Tryz.Builder_Extra_169 : Builder.Extra Tryz.prog Tryz.lays169_ren := {
 sizeBuilder := by kernel_rfl
 liesBuilder := by kernel_rfl
 t5 := Tryz.underlying5
 a5 := Tryz.isAgg5
 z5 := Tryz.sizeOf5
 v5 := Tryz.zeroValue5
 infoByte := by kernel_rfl
 cellsByte := by kernel_rfl
 sizeByte := by kernel_rfl
 neB5 := by decide }
end Go.Proofs

namespace Go.Te
open Go Go.Sx Go.Proofs Go.RowKit Go.Shelf
theorem sizeB : (Tryz.prog.info? 108).map (·.size) = some 2 := by kernel_rfl
theorem liesB : liesAt Tryz.prog Tryz.prog.depth 108 (2 / Tryz.prog.cellsOf 108) 0 108 1 = true := by kernel_rfl
set_option maxHeartbeats 1000000 in
set_option maxRecDepth 100000 in
theorem cc_used (b : Nat) (w : World) (h0 : w.cell? ⟨b, 0, none⟩ = some (.pointer (some ⟨b, 0, none⟩))) :
  Calls Tryz.prog 120 #[.pointer (some ⟨b, 0, none⟩)] w fun e w' => e = .returned (.tuple #[]) ∧ w' = w := by
 obtain ⟨j, hj, _⟩ := Option.map_eq_some_iff.1 sizeB
 go_enter Tryz.func120, Tryz.ntmps120
 go_wp2
 rw [Lib.run_neq_ptr_same w _ Tryz.underlying105 hj]
 go_wp2
 go_end0
 exact ⟨rfl, rfl⟩
set_option maxHeartbeats 1000000 in
set_option maxRecDepth 100000 in
theorem cc_fresh (b : Nat) (w : World) (h0 : w.cell? ⟨b, 0, none⟩ = some (.pointer none)) (hsh : w.shape? b = some (108, 2)) (hfz : w.frozen? ⟨b, 0, none⟩ = false) :
  Calls Tryz.prog 120 #[.pointer (some ⟨b, 0, none⟩)] w fun e w' => e = .returned (.tuple #[]) ∧ w' = w.setCell ⟨b, 0, none⟩ (.pointer (some ⟨b, 0, none⟩)) := by
 obtain ⟨j, hj, hjs⟩ := Option.map_eq_some_iff.1 sizeB
 go_enter Tryz.func120, Tryz.ntmps120
 go_wp2
 rw [Lib.run_to_unsafe w ⟨b, 0, none⟩ Tryz.underlying105 Tryz.underlying206 hj (by rw [hjs]; decide) hsh (Nat.zero_lt_succ 1)]
 simp only [Result.andThen]
 rw [Oper.upon_value]
 go_wp2
 rw [run_callFunc_extern Tryz.func179 (by kernel_rfl) (by kernel_rfl) (by kernel_rfl) (e := Extern.AbiNoEscape.same) (by kernel_rfl)]
 rw [Lib.run_noEscape]
 simp only [Result.andThen]
 rw [Oper.upon_value]
 go_wp2
 rw [Lib.run_from_unsafe w ⟨b, 0, none⟩ Tryz.underlying206 Tryz.underlying105 hj hsh liesB]
 simp only [Result.andThen]
 rw [Oper.upon_value]
 go_wp2
 go_end0
 exact ⟨rfl, rfl⟩
section
variable {P : Program} {ρ : Ren}
set_option maxHeartbeats 1000000 in
set_option maxRecDepth 100000 in
theorem str_row (L : Lays.n169 P ρ) (X : Builder.Extra P ρ) (b g cap : Nat) (p : Value) (cur : Array Value) (l : List UInt8) (w : World) (h0 : l ≠ []) (hbk : w.heap[b]? = some (.cells #[p, .slice (some ⟨g, 0, none⟩) l.length cap] (ρ.t 72) (0, 0)))
  (hg : w.heap[g]? = some (.cells cur (ρ.t 5) (0, 0))) (hnc : l.length ≤ cap) (hcm : cap ≤ maxLen) (hcs : cur.size = cap) (hcell : ∀ (j : Nat) (x : UInt8), l[j]? = some x → cur[j]? = some (Value.int .u8 x.toNat)) :
  Calls P (ρ.f 169) #[.pointer (some ⟨b, 0, none⟩)] w fun e w' => e = .returned (.string ⟨l.toArray⟩) ∧ w' = w.drew.freeze ⟨g, 0, none⟩ l.length := by
 have hl0 : l.length ≠ 0 := by simpa using h0
 have c1 : w.drew.cell? ⟨b, 1, none⟩ = some (.slice (some ⟨g, 0, none⟩) l.length cap) := by
  have : w.drew.heap[b]? = some (.cells #[p, .slice (some ⟨g, 0, none⟩) l.length cap] (ρ.t 72) (0, 0)) := hbk
  rw [Lib.cell_of_heap this]; rfl
 have hSD : (Builtin.unsafeSliceData_ #[(ρ.t 37)] (ρ.t 127) #[.slice (some ⟨g, 0, none⟩) l.length cap]).run P w.drew = .ok (.pointer (some ⟨g, 0, none⟩)) w.drew :=
  Lib.run_unsafeSliceData_row _ _ _ _ _ _ (by omega)
 have hUS : (Builtin.unsafeString_ #[(ρ.t 127), (ρ.t 3)] (ρ.t 9) #[.pointer (some ⟨g, 0, none⟩), .int .i64 l.length]).run P w.drew = .ok (.string ⟨l.toArray⟩) (w.drew.freeze ⟨g, 0, none⟩ l.length) := by
  refine Lib.run_unsafeString_row w.drew (ρ.t 127) (ρ.t 3) (ρ.t 9) (ρ.t 5) L.t127 X.cellsByte g cur.size (by have hg' : w.drew.heap[g]? = some (.cells cur (ρ.t 5) (0, 0)) := hg; simp [World.shape?, hg']) l h0 (by omega) (by unfold maxLen at hcm; omega) ?_
  intro j x hx
  have hg' : w.drew.heap[g]? = some (.cells cur (ρ.t 5) (0, 0)) := hg
  rw [add_lit, Nat.zero_add, Lib.cell_of_heap hg']
  exact hcell j x hx
 have mixed := L.mixed
 have t72 := L.t72; have a72 := L.a72; have z72 := L.z72; have v72 := L.v72; have u72 := run_underlying L.t72
 have t70 := L.t70; have a70 := L.a70; have z70 := L.z70; have v70 := L.v70; have u70 := run_underlying L.t70
 have t37 := L.t37; have a37 := L.a37; have z37 := L.z37; have v37 := L.v37; have u37 := run_underlying L.t37
 have t127 := L.t127; have a127 := L.a127; have z127 := L.z127; have v127 := L.v127; have u127 := run_underlying L.t127
 have t3 := L.t3; have a3 := L.a3; have z3 := L.z3; have v3 := L.v3; have u3 := run_underlying L.t3
 have t9 := L.t9; have a9 := L.a9; have z9 := L.z9; have v9 := L.v9; have u9 := run_underlying L.t9
 have t5 := X.t5; have a5 := X.a5; have z5 := X.z5; have v5 := X.v5; have u5 := run_underlying X.t5
 go_enter L.f169, Body.n169_ntmps ρ
 go_wp2
 go_region_o
 all_goals (go_wp2; go_ret; exact ⟨rfl, rfl⟩)
set_option maxHeartbeats 2000000 in
set_option maxRecDepth 100000 in
theorem str_nil (L : Lays.n169 P ρ) (X : Builder.Extra P ρ) (b : Nat) (p : Value) (w : World) (hbk : w.heap[b]? = some (.cells #[p, .slice none 0 0] (ρ.t 72) (0, 0))) :
  Calls P (ρ.f 169) #[.pointer (some ⟨b, 0, none⟩)] w fun e w' => e = .returned (.string ⟨#[]⟩) ∧ w' = w.drew := by
 have hUS := Any.unsafeString_none L X
 have c1 : w.drew.cell? ⟨b, 1, none⟩ = some (.slice none 0 0) := by
  have : w.drew.heap[b]? = some (.cells #[p, .slice none 0 0] (ρ.t 72) (0, 0)) := hbk
  rw [Lib.cell_of_heap this]; rfl
 have hSD : (Builtin.unsafeSliceData_ #[(ρ.t 37)] (ρ.t 127) #[.slice none 0 0]).run P w.drew = .ok (.pointer none) w.drew := rfl
 have mixed := L.mixed
 have t72 := L.t72; have a72 := L.a72; have z72 := L.z72; have v72 := L.v72; have u72 := run_underlying L.t72
 have t70 := L.t70; have a70 := L.a70; have z70 := L.z70; have v70 := L.v70; have u70 := run_underlying L.t70
 have t37 := L.t37; have a37 := L.a37; have z37 := L.z37; have v37 := L.v37; have u37 := run_underlying L.t37
 have t127 := L.t127; have a127 := L.a127; have z127 := L.z127; have v127 := L.v127; have u127 := run_underlying L.t127
 have t3 := L.t3; have a3 := L.a3; have z3 := L.z3; have v3 := L.v3; have u3 := run_underlying L.t3
 have t9 := L.t9; have a9 := L.a9; have z9 := L.z9; have v9 := L.v9; have u9 := run_underlying L.t9
 have t5 := X.t5; have a5 := X.a5; have z5 := X.z5; have v5 := X.v5; have u5 := run_underlying X.t5
 go_enter L.f169, Body.n169_ntmps ρ
 go_wp2
 go_region_o
 all_goals (go_wp2; go_ret; exact ⟨rfl, rfl⟩)
end
section
variable {E : Env} {nb : Nat} {bl : Nat → OB} {S : Nat → Prop} {ρ : Nat → Go.Sx.Own} {w : World}
theorem Mem.off (h : Mem E nb bl S ρ w) {w' : World} (g : Nat) (hw : ∀ b, b ≠ g → w'.heap[b]? = w.heap[b]?) (hsz : w'.heap.size = w.heap.size) (e1 : w'.os = w.os) (e2 : w'.tape = w.tape) (e3 : w'.output = w.output) (e5 : w.drawn ≤ w'.drawn)
  (hS : ¬ S g) (hρ : ∀ k, ¬ (ρ k).has g) (hg3 : E.w0.heap.size ≤ g ∨ E.X g) : Mem E nb bl S ρ w' ∧ ∀ b, S b → S b ∧ w'.heap[b]? = w.heap[b]? := by
 have hS' : ∀ b, S b → S b ∧ w'.heap[b]? = w.heap[b]? := fun b hb => ⟨hb, hw b fun e => hS (e ▸ hb)⟩
 refine ⟨⟨?_, ?_, h.sup, h.sub, ?_, h.hi, ?_, h.own, h.dis, h.b0, h.nbz, h.ole⟩, hS'⟩
 ·refine h.fr.trans (fun b hb hx => hw b fun e => ?_) e1 e2 e3 (by omega) e5
  subst e
  rcases hg3 with ho | ho
  ·omega
  ·exact hx ho
 ·intro b hb; rw [hsz]; exact h.sb b hb
 ·intro b o hbo
  obtain ⟨h1, h2⟩ := h.glob b o hbo
  exact ⟨h1, (hS' b h1).2.trans h2⟩
 ·intro k hk
  exact (h.ok k hk).mono hS' (OwnLe.refl _) fun g' hg' => hw g' fun e => hρ k (e ▸ hg')
theorem Mem.drewn (h : Mem E nb bl S ρ w) {w' : World} (hh : w'.heap = w.heap) (e1 : w'.os = w.os) (e2 : w'.tape = w.tape) (e3 : w'.output = w.output) (e5 : w.drawn ≤ w'.drawn) :
  Mem E nb bl S ρ w' ∧ ∀ b, S b → S b ∧ w'.heap[b]? = w.heap[b]? := by
 have hS' : ∀ b, S b → S b ∧ w'.heap[b]? = w.heap[b]? := fun b hb => ⟨hb, by rw [hh]⟩
 refine ⟨⟨?_, ?_, h.sup, h.sub, ?_, h.hi, ?_, h.own, h.dis, h.b0, h.nbz, h.ole⟩, hS'⟩
 ·exact h.fr.trans (fun b hb hx => by rw [hh]) e1 e2 e3 (by rw [hh]; exact Nat.le_refl _) e5
 ·intro b hb; rw [hh]; exact h.sb b hb
 ·intro b o hbo
  obtain ⟨h1, h2⟩ := h.glob b o hbo
  exact ⟨h1, (hS' b h1).2.trans h2⟩
 ·intro k hk
  exact (h.ok k hk).mono hS' (OwnLe.refl _) fun g' hg' => by rw [hh]
end
def ccO (nb : Nat) (bl : Nat → OB) (xs : List AV) (k : Nat → (Nat → OB) → AV → Prop) : Prop :=
 match xs with
 | [.np b 0] =>
  match bl b with
  | .box t n cs =>
   bsplit (Nat.beq t 108 && Nat.beq n 2 && Nat.blt b nb)
    (match cs 0 with
    | .v (.pointer none) => k nb (upd bl b (.box 108 2 (listFn [.np b 0, cs 1]))) (.tup 0 fun _ => .junk)
    | .np b' 0 => bsplit (Nat.beq b' b) (k nb bl (.tup 0 fun _ => .junk)) False
    | _ => Fail b) False
  | _ => Fail b
 | _ => Fail xs
theorem cc_own (G : List (Nat × Obj)) : OwnT Tryz.prog G 120 ccO := by
 refine ⟨enters_of Tryz.func120 (by kernel_rfl) rfl, ?_, ?_⟩
 ·intro nb bl xs k k' hk h
  unfold ccO at h ⊢
  split at h
  ·split at h
   ·rw [bsplit_iff] at h ⊢
    refine ⟨fun hc => ?_, fun hc => (h.2 hc).elim⟩
    replace h := h.1 hc
    split at h
    ·exact hk _ _ _ h
    ·rw [bsplit_iff] at h ⊢
     exact ⟨fun hb => hk _ _ _ (h.1 hb), fun hb => (h.2 hb).elim⟩
    ·exact h
   ·exact h
  ·exact h
 ·intro E nb bl S ρ w xs vs k _ hM hx h
  unfold ccO at h
  split at h
  ·rename_i b
   split at h
   ·rename_i t n cs hB
    rw [bsplit_iff] at h
    cases hc : Nat.beq t 108 && Nat.beq n 2 && Nat.blt b nb with
    | false => exact (h.2 hc).elim
    | true =>
    replace h := h.1 hc
    simp only [Bool.and_eq_true] at hc
    obtain rfl := Nat.eq_of_beq_eq_true hc.1.1
    obtain rfl := Nat.eq_of_beq_eq_true hc.1.2
    have hlt : b < nb := Nat.le_of_ble_eq_true hc.2
    match vs, hx with
    | [v], ⟨hv, _⟩ =>
    cases hv with
    | dnp hd hsh => exact (hM.box (by rw [hB]; rfl) hd).elim
    | np g hk =>
    have hbk := (hM.at b).resolve_left (by rw [hk]; simp)
    rw [hB, hk] at hbk
    obtain ⟨⟨l⟩, c1, c2, c3⟩ := hbk
    match l, c2 with
    | [x, y], _ =>
    have r0 := (c3 0 (by omega)).1
    have e0 : w.cell? ⟨g, 0, none⟩ = some x := by rw [Lib.cell_of_heap c1]; rfl
    have hr : Rel w S ρ (.np b 0) (.pointer (some ⟨g, 0, none⟩)) := .np g hk
    split at h
    ·rename_i hcs
     rw [hcs] at r0
     have ex : x = .pointer none := by
      have : (⟨[x, y]⟩ : Array Value).getD 0 undef = x := rfl
      rw [this] at r0
      cases r0; rfl
     subst ex
     refine (cc_fresh g w e0 (by simp [World.shape?, c1]) (by simp [World.frozen?, c1])).mono ?_
     rintro e w' ⟨rfl, rfl⟩
     have hh : (w.setCell ⟨g, 0, none⟩ (.pointer (some ⟨g, 0, none⟩))).heap[g]? = some (.cells #[.pointer (some ⟨g, 0, none⟩), y] 108 (0, 0)) := by
      simp [World.setCell, Array.getElem?_modify, c1]
     have hw : ∀ b, b ≠ g → (w.setCell ⟨g, 0, none⟩ (.pointer (some ⟨g, 0, none⟩))).heap[b]? = w.heap[b]? := fun b hb => by
      simp [World.setCell, Array.getElem?_modify, Ne.symm hb]
     have hS : ∀ b, S b → S b ∧ (w.setCell ⟨g, 0, none⟩ (.pointer (some ⟨g, 0, none⟩))).heap[b]? = w.heap[b]? := fun b' hb' => ⟨hb', hw b' fun e' => (hM.own b g (by rw [hk]; rfl)).1 (e' ▸ hb')⟩
     obtain ⟨m1, m2⟩ := hM.write (k := b) (g := g) (B := .box 108 2 (listFn [.np b 0, cs 1])) hlt (by rw [hk]; rfl) hw (by simp [World.setCell]) rfl rfl rfl (Nat.le_refl _) (by
      rw [hk]
      refine ⟨_, hh, rfl, fun i hi => ?_⟩
      match i, hi with
      | 0, _ => exact ⟨.np g hk, rfl⟩
      | 1, _ => exact ⟨((c3 1 (by omega)).1).mono hS (OwnLe.refl _), (c3 1 (by omega)).2⟩)
     exact ⟨_, _, S, ρ, _, _, rfl, h, m1, m2, OwnLe.refl _, .tup #[] rfl fun i hi => absurd hi (Nat.not_lt_zero _)⟩
    ·rename_i b' hcs
     rw [bsplit_iff] at h
     cases hb : Nat.beq b' b with
     | false => exact (h.2 hb).elim
     | true =>
     replace h := h.1 hb
     obtain rfl := Nat.eq_of_beq_eq_true hb
     rw [hcs] at r0
     have ex : x = .pointer (some ⟨g, 0, none⟩) := by
      have : (⟨[x, y]⟩ : Array Value).getD 0 undef = x := rfl
      rw [this] at r0
      cases r0 with
      | np g' hk' => rw [hk] at hk'; cases hk'; rfl
      | dnp hd => exact (hM.box (by rw [hB]; rfl) hd).elim
     subst ex
     refine (cc_used g w e0).mono ?_
     rintro e w' ⟨rfl, rfl⟩
     exact ⟨_, _, S, ρ, _, _, rfl, h, hM, fun b hb => ⟨hb, rfl⟩, OwnLe.refl _, .tup #[] rfl fun i hi => absurd hi (Nat.not_lt_zero _)⟩
    ·exact h.elim
   ·exact h.elim
  ·exact h.elim
def strO (nb : Nat) (bl : Nat → OB) (xs : List AV) (k : Nat → (Nat → OB) → AV → Prop) : Prop :=
 match xs with
 | [.np b 0] =>
  match bl b with
  | .box t n cs =>
   bsplit (Nat.beq t 108 && Nat.beq n 2)
    (match cs 1 with
    | .v (.slice none 0 0) => k nb bl (.str [])
    | .ns j 0 len =>
     match bl j with
     | .arr e sz _ els => bsplit (Nat.beq e 5 && Nat.beq sz 1 && Nat.blt j nb) (0 < len ∧ ∃ l : List UInt8, l.length = len ∧ (∀ i, i < len → els i 0 = .v (.int .u8 (l.getD i 0).toNat)) ∧ k nb (upd bl j .dead) (.str l)) False
     | _ => Fail b
    | _ => Fail b) False
  | _ => Fail b
 | _ => Fail xs
theorem str_own (G : List (Nat × Obj)) : OwnT Tryz.prog G 73 strO := by
 refine ⟨enters_of Tryz.func73 (by kernel_rfl) rfl, ?_, ?_⟩
 ·intro nb bl xs k k' hk h
  unfold strO at h ⊢
  split at h
  ·split at h
   ·rw [bsplit_iff] at h ⊢
    refine ⟨fun hc => ?_, fun hc => (h.2 hc).elim⟩
    replace h := h.1 hc
    split at h
    ·exact hk _ _ _ h
    ·split at h
     ·rw [bsplit_iff] at h ⊢
      refine ⟨fun hb => ?_, fun hb => (h.2 hb).elim⟩
      obtain ⟨h1, l, h2, h3, h4⟩ := h.1 hb
      exact ⟨h1, l, h2, h3, hk _ _ _ h4⟩
     ·exact h
    ·exact h
   ·exact h
  ·exact h
 ·intro E nb bl S ρ w xs vs k _ hM hx h
  unfold strO at h
  split at h
  ·rename_i b
   split at h
   ·rename_i t n cs hB
    rw [bsplit_iff] at h
    cases hc : Nat.beq t 108 && Nat.beq n 2 with
    | false => exact (h.2 hc).elim
    | true =>
    replace h := h.1 hc
    simp only [Bool.and_eq_true] at hc
    obtain rfl := Nat.eq_of_beq_eq_true hc.1
    obtain rfl := Nat.eq_of_beq_eq_true hc.2
    match vs, hx with
    | [v], ⟨hv, _⟩ =>
    cases hv with
    | dnp hd hsh => exact (hM.box (by rw [hB]; rfl) hd).elim
    | np g hk =>
    have hbk := (hM.at b).resolve_left (by rw [hk]; simp)
    rw [hB, hk] at hbk
    obtain ⟨⟨l⟩, c1, c2, c3⟩ := hbk
    match l, c2 with
    | [x, y], _ =>
    have r1 := (c3 1 (by omega)).1
    have ey : (⟨[x, y]⟩ : Array Value).getD 1 undef = y := rfl
    rw [ey] at r1
    split at h
    ·rename_i hcs
     rw [hcs] at r1
     obtain rfl := rel_v r1
     refine (str_nil Tryz.lays169 Tryz.Builder_Extra_169 g x w c1).mono ?_
     rintro e w' ⟨rfl, rfl⟩
     obtain ⟨m1, m2⟩ := Mem.drewn hM (w' := w.drew) rfl rfl rfl rfl (Nat.le_succ _)
     exact ⟨_, _, S, ρ, _, _, rfl, h, m1, m2, OwnLe.refl _, .str []⟩
    ·rename_i j len hcs
     split at h
     ·rename_i el sz L els hA
      rw [bsplit_iff] at h
      cases hb : Nat.beq el 5 && Nat.beq sz 1 && Nat.blt j nb with
      | false => exact (h.2 hb).elim
      | true =>
      obtain ⟨h1, l, h2, h3, h4⟩ := h.1 hb
      simp only [Bool.and_eq_true] at hb
      obtain rfl := Nat.eq_of_beq_eq_true hb.1.1
      obtain rfl := Nat.eq_of_beq_eq_true hb.1.2
      have hj : j < nb := Nat.le_of_ble_eq_true hb.2
      rw [hcs] at r1
      cases r1 with
      | dns hd hsh => exact (hM.arr (by rw [hA]; rfl) hd).elim
      | nsr g' cap sz2 L' sub hk' hl hcap =>
       have hbj := (hM.at j).resolve_left (by rw [hk']; simp)
       rw [hA, hk'] at hbj
       exact hbj.elim
      | nsv q o cap hk' =>
       have hbj := (hM.at j).resolve_left (by rw [hk']; simp)
       rw [hA, hk'] at hbj
       exact hbj.elim
      | ns0 => exact absurd h1 (Nat.lt_irrefl _)
      | nsn => exact absurd h1 (Nat.lt_irrefl _)
      | ns g' base cap sz' L' hk' hl hcap =>
       subst h2
       have hb0 := hM.b0 _ _ _ _ _ _ hk'
       subst hb0
       have hbj := (hM.at j).resolve_left (by rw [hk']; simp)
       rw [hA, hk'] at hbj
       obtain ⟨e1, e2, q1, q2, c, q3, q4, q5⟩ := hbj
       subst e1; subst e2
       simp only [Nat.zero_add] at q4 q5 hl
       have hl0 : l ≠ [] := fun e => by rw [e] at h1; exact absurd h1 (Nat.lt_irrefl _)
       have hcell : ∀ (i : Nat) (z : UInt8), l[i]? = some z → c[i]? = some (Value.int .u8 z.toNat) := fun i z hz => by
        have hi : i < l.length := (List.getElem?_eq_some_iff.1 hz).1
        have r := (q5 i 0 (by omega) (by omega)).1
        rw [h3 i hi] at r
        have e3 := rel_v r
        rw [Nat.mul_one, Nat.add_zero, List.getD_eq_getElem?_getD, hz, Option.getD_some] at e3
        have hlt : i < c.size := by omega
        rw [Array.getD_eq_getD_getElem?, Array.getElem?_eq_getElem hlt, Option.getD_some] at e3
        rw [Array.getElem?_eq_getElem hlt, e3]
       have hrun := str_row Tryz.lays169 Tryz.Builder_Extra_169 g g' cap x c l w hl0 (by have := c1; simp only [Nat.zero_add, Nat.zero_mul, Nat.sub_zero] at this; exact this) q3 (by omega) q2 (by omega) hcell
       refine hrun.mono ?_
       rintro e w' ⟨rfl, rfl⟩
       obtain ⟨k1, k2, k3⟩ := hM.kill j hj false
       have k1' : Mem E nb (upd bl j .dead) S (upd ρ j .dead) w := by
        have : (fun b => S b ∨ (false = true ∧ (ρ j).has b)) = S := by funext b; simp
        rw [this] at k1; exact k1
       obtain ⟨o1, o2⟩ := hM.own j g' (by rw [hk']; rfl)
       obtain ⟨m1, m2⟩ := Mem.off k1' (w' := w.drew.freeze ⟨g', 0, none⟩ l.length) g' (fun b hb => by
         unfold World.freeze
         split
         ·rfl
         ·show (w.heap.modify g' _)[b]? = w.heap[b]?
          simp [Array.getElem?_modify, Ne.symm hb]) (by
         unfold World.freeze
         split
         ·rfl
         ·show (w.heap.modify g' _).size = w.heap.size
          simp) (by unfold World.freeze; split <;> rfl) (by unfold World.freeze; split <;> rfl) (by unfold World.freeze; split <;> rfl) (by unfold World.freeze; split <;> exact Nat.le_succ _)
         o1 (fun i hi => by
          by_cases e : i = j
          ·subst e; rw [upd_same] at hi; exact hi.elim
          ·rw [upd_other _ _ e] at hi; exact e (hM.dis i j g' hi (by rw [hk']; rfl))) o2
       exact ⟨_, _, S, _, _, _, rfl, h4, m1, m2, k2, .str l⟩
     ·exact h.elim
    ·exact h.elim
   ·exact h.elim
  ·exact h.elim
end Go.Te

namespace Go.Te
open Go Go.Sx Go.Proofs Go.Ar Go.Lib
set_option maxRecDepth 100000
set_option maxHeartbeats 4000000
def rep_t : List AV → Option (List Cond × AV)
 | [.str s, .v (.int .i64 k)] => some ([.b (s == [48]), .p (0 ≤ k ∧ k ≤ 8)], .str (List.replicate k.toNat 48))
 | _ => none
theorem rq0_vc  :
 True := by
 trivial
theorem rq1_vc  :
 True := by
 trivial
theorem rq2_vc  :
 True := by
 trivial
theorem rq3_vc  :
 True := by
 trivial
theorem rq4_vc  :
 True := by
 trivial
theorem rq5_vc  :
 True := by
 trivial
theorem rq6_vc  :
 True := by
 trivial
theorem rq7_vc  :
 True := by
 trivial
theorem rq8_vc  :
 True := by
 trivial
theorem repC {k : Int} {n : Nat} (e : k = n) (h : vcFnC Tryz.prog (T0.deep Tryz.prog 5) 240 .auto [.str [48], .i k] (isS (List.replicate n 48))) : PureCall Tryz.prog [] 240 [.str [48], .i k] (.str (List.replicate k.toNat 48)) := by
 subst e
 exact pure_of_vcC mixed (TbSound.deep mixed tb0_sound 5) isS_avM h
theorem rep_T : PureT Tryz.prog [] 240 rep_t := by
 intro xs ps r h hp
 unfold rep_t at h
 split at h
 ·rename_i s k
  cases h
  have q : (s == [48]) = true := hp _ List.mem_cons_self
  have q1 : 0 ≤ k ∧ k ≤ 8 := hp _ (List.mem_cons_of_mem _ List.mem_cons_self)
  obtain rfl := eq_of_beq q
  obtain ⟨n, rfl⟩ : ∃ n : Nat, k = n := ⟨k.toNat, by omega⟩
  match n, q1 with
  | 0, _ => exact repC rfl (Eq.mp (by kernel_rfl) rq0_vc)
  | 1, _ => exact repC rfl (Eq.mp (by kernel_rfl) rq1_vc)
  | 2, _ => exact repC rfl (Eq.mp (by kernel_rfl) rq2_vc)
  | 3, _ => exact repC rfl (Eq.mp (by kernel_rfl) rq3_vc)
  | 4, _ => exact repC rfl (Eq.mp (by kernel_rfl) rq4_vc)
  | 5, _ => exact repC rfl (Eq.mp (by kernel_rfl) rq5_vc)
  | 6, _ => exact repC rfl (Eq.mp (by kernel_rfl) rq6_vc)
  | 7, _ => exact repC rfl (Eq.mp (by kernel_rfl) rq7_vc)
  | 8, _ => exact repC rfl (Eq.mp (by kernel_rfl) rq8_vc)
  | n + 9, q1 => exact absurd q1.2 (by omega)
 ·cases h
def Tb.own1 (T : Tb) (f : FuncId) (t : Nat → (Nat → OB) → List AV → (Nat → (Nat → OB) → AV → Prop) → Prop) : Tb := { T with own := fun g => bif Nat.beq g f then some t else T.own g }
theorem TbSound.own1 {P : Program} {T : Tb} (hT : TbSound P T) {f : FuncId} {t : Nat → (Nat → OB) → List AV → (Nat → (Nat → OB) → AV → Prop) → Prop} (ht : OwnT P T.objs f t) : TbSound P (Tb.own1 T f t) := by
 refine ⟨fun g t' h => ?_, hT.pu, hT.fre⟩
 simp only [Tb.own1] at h
 cases hx : Nat.beq g f with
 | false => rw [hx] at h; exact hT.own _ _ h
 | true =>
  rw [hx] at h
  obtain rfl := Nat.eq_of_beq_eq_true hx
  cases h
  exact ht
noncomputable def TBd (G : List (Nat × Obj)) : Tb := (Tb.own1 (Tb.own1 (TIt G) 120 ccO) 73 strO).body Tryz.prog [(69, .auto), (70, .auto), (72, .auto), (239, .auto)]
theorem TBd_sound {G : List (Nat × Obj)} (hG : TabIn G) : TbSound Tryz.prog (TBd G) := TbSound.body mixed (TbSound.own1 (TbSound.own1 (TIt_sound hG) (cc_own G)) (str_own G)) _
noncomputable def TWr (G : List (Nat × Obj)) : Tb := (TBd G).plus 240 rep_t
theorem TWr_sound {G : List (Nat × Obj)} (hG : TabIn G) : TbSound Tryz.prog (TWr G) := TbSound.plus (TBd_sound hG) (PureT.mono rep_T)
def wrTx (x : Big) (z : Nat) : Str := (bif x.neg then [45] else []) ++ Lib.decDigits (topN 1000000000 x.l z)
def bufOf (σ : Sig) : Nat :=
 match σ.bl 1 with
 | .box _ _ cs => blkAt (cs 1)
 | _ => 0
def iwr_it (x : Big) : Ann :=
 .two .auto (.one (.two .auto (.unroll (x.l.length + 1) (.loop Nat (fun σ z => [(0, σ.tm 0), (1, σ.tm 1), (3, .i ((z : Int) - 1))])
  (fun σ z => [(1, .box 108 2 (listFn [.np 1 0, .ns σ.nb 0 (wrTx x z).length])), (bufOf σ, .dead), (σ.nb, bArr (wrTx x z))]) 1 (fun _ z => z < x.l.length) (fun _ z => z) .auto))))
def iwr_an (x : Big) : Ann :=
 .two .auto (.two .auto (.two .auto (.two .auto (.two (.two .auto (.one (.range (iwr_it x) .auto .auto))) .auto))))
theorem getD_appS (a b : Str) (i : Nat) : (a ++ b).getD i 0 = if i < a.length then a.getD i 0 else b.getD (i - a.length) 0 := by
 by_cases h : i < a.length
 ·rw [if_pos h, List.getD_eq_getElem?_getD, List.getElem?_append_left h, ← List.getD_eq_getElem?_getD]
 ·rw [if_neg h, List.getD_eq_getElem?_getD, List.getElem?_append_right (by omega), ← List.getD_eq_getElem?_getD]
theorem cat2 (a b : Str) (i : Nat) : avM (if i < a.length then AV.v (Value.int IntKind.u8 ((a.getD i 0).toNat : Int)) else AV.v (Value.int IntKind.u8 ((b.getD (i - a.length) 0).toNat : Int))) (AV.v (Value.int IntKind.u8 (((a ++ b).getD i 0).toNat : Int))) := by
 rw [getD_appS]
 split <;> exact avM_refl _
theorem cat3 (a b c : Str) (i : Nat) : avM (if i < a.length + b.length then (if i < a.length then AV.v (Value.int IntKind.u8 ((a.getD i 0).toNat : Int)) else AV.v (Value.int IntKind.u8 ((b.getD (i - a.length) 0).toNat : Int))) else AV.v (Value.int IntKind.u8 ((c.getD (i - (a.length + b.length)) 0).toNat : Int))) (AV.v (Value.int IntKind.u8 (((a ++ b ++ c).getD i 0).toNat : Int))) := by
 rw [getD_appS (a ++ b) c, List.length_append]
 split
 ·exact cat2 a b i
 ·exact avM_refl _
theorem cat1 (c : UInt8) (b : Str) (i : Nat) : avM (if i < 1 then AV.v (Value.int IntKind.u8 (c.toNat : Int)) else AV.v (Value.int IntKind.u8 ((b.getD (i - 1) 0).toNat : Int))) (AV.v (Value.int IntKind.u8 (((c :: b).getD i 0).toNat : Int))) := by
 match i with
 | 0 => exact avM_refl _
 | i + 1 => rw [if_neg (by omega)]; exact avM_refl _
theorem itoa_limb {n : Int} (h0 : 0 ≤ n) (h1 : n < 1000000000) : 1 ≤ (itoa n).length ∧ (itoa n).length ≤ 9 ∧ itoa n = decDigits n.toNat := by
 obtain ⟨m, rfl⟩ : ∃ m : Nat, n = m := ⟨n.toNat, by omega⟩
 have e : itoa (m : Int) = decDigits m := Go.Ar.itoa_nat m
 rw [Int.toNat_natCast, e]
 refine ⟨decDigits_pos m, ?_, rfl⟩
 rw [Lib.decDigits_length]
 exact (nDigits_le_iff (by omega)).2 (by omega)
theorem wr_first {x : Big} (hx : InL 1000000000 x.l) (h : 0 < x.l.length) : wrTx x (x.l.length - 1) = (bif x.neg then [45] else []) ++ itoa (x.l.getD (x.l.length - 1) 0) := by
 have g := hx.get (by omega) (x.l.length - 1)
 rw [(itoa_limb g.1 g.2).2.2]
 unfold wrTx
 rw [topN_last h]
theorem top_nz {l : List Int} (hx : InL 1000000000 l) (ht : trimL l = l) {z : Nat} (hz : z < l.length) : topN 1000000000 l z ≠ 0 := by
 have e : l = limbs 1000000000 (valL 1000000000 l).toNat := limbs_eq (b := 1000000000) (by omega) hx ht
 have hn : (valL 1000000000 l).toNat ≠ 0 := fun e0 => by
  rw [e0, limbs_zero] at e
  rw [e] at hz
  exact absurd hz (Nat.not_lt_zero _)
 rw [e] at hz ⊢
 exact topN_pos (b := 1000000000) (by omega) hn hz
theorem wr_step {x : Big} (hx : InL 1000000000 x.l) (ht : trimL x.l = x.l) {z : Nat} (h0 : 0 < z) (h : z < x.l.length) :
  wrTx x (z - 1) = wrTx x z ++ List.replicate (9 - ((itoa (x.l.getD (z - 1) 0)).length : Int)).toNat 48 ++ itoa (x.l.getD (z - 1) 0) := by
 have g := hx.get (by omega) (z - 1)
 obtain ⟨g1, g2, g3⟩ := itoa_limb g.1 g.2
 have hs := topN_step (k := 9) (l := x.l) (by omega) hx (i := z - 1) (by omega) (by rw [show z - 1 + 1 = z by omega]; exact top_nz hx ht h)
 rw [show z - 1 + 1 = z by omega] at hs
 unfold wrTx
 rw [show decDigits (topN 1000000000 x.l (z - 1)) = decDigits (topN 1000000000 x.l z) ++ padK 9 (x.l.getD (z - 1) 0).toNat from hs]
 unfold padK
 rw [← g3, show (9 - ((itoa (x.l.getD (z - 1) 0)).length : Int)).toNat = 9 - (itoa (x.l.getD (z - 1) 0)).length by omega]
 simp only [List.append_assoc]
theorem wr_len {x : Big} (hx : InL 1000000000 x.l) (z : Nat) : (wrTx x z).length ≤ 9 * x.l.length + 2 := by
 unfold wrTx
 rw [List.length_append]
 have h1 : (bif x.neg then [(45 : UInt8)] else []).length ≤ 1 := by cases x.neg <;> simp
 have h2 : (decDigits (topN 1000000000 x.l z)).length ≤ 9 * x.l.length + 1 := by
  rw [Lib.decDigits_length]
  refine (nDigits_le_iff (by omega)).2 ?_
  have h3 := valL_lt (b := 1000000000) (by omega) (hx.drop z)
  have h4 := valL_nonneg (b := 1000000000) (by omega) (hx.drop z)
  unfold topN
  have h5 : (1000000000 : Nat) ^ (x.l.drop z).length ≤ 1000000000 ^ x.l.length := Nat.pow_le_pow_right (by omega) (by simp)
  have h6 : (1000000000 : Nat) ^ x.l.length = 10 ^ (9 * x.l.length) := by rw [Nat.pow_mul]
  have h7 : 10 ^ (9 * x.l.length) ≤ 10 ^ (9 * x.l.length + 1) := Nat.pow_le_pow_right (by omega) (by omega)
  have h8 : (valL 1000000000 (x.l.drop z)).toNat < 1000000000 ^ (x.l.drop z).length := by
   have : ((valL 1000000000 (x.l.drop z)).toNat : Int) < ((1000000000 ^ (x.l.drop z).length : Nat) : Int) := by rw [Int.toNat_of_nonneg h4, Int.natCast_pow]; exact h3
   omega
  exact Nat.lt_of_lt_of_le h8 (by omega)
 omega
theorem wr_end {x : Big} (hx : InL 1000000000 x.l) (ht : trimL x.l = x.l) (h : 0 < x.l.length) : wrTx x 0 = itoa (bif x.neg then - valL 1000000000 x.l else valL 1000000000 x.l) ∧ 0 < (wrTx x 0).length := by
 have hz := top_nz hx ht h
 have e : topN 1000000000 x.l 0 = (valL 1000000000 x.l).toNat := by unfold topN; rw [List.drop_zero]; rfl
 rw [e] at hz
 unfold wrTx
 rw [e]
 obtain ⟨n, hn⟩ : ∃ n : Nat, valL 1000000000 x.l = n := ⟨(valL 1000000000 x.l).toNat, by omega⟩
 rw [hn] at hz ⊢
 rw [Int.toNat_natCast] at hz ⊢
 refine ⟨?_, by have := decDigits_pos n; simp; omega⟩
 cases x.neg with
 | true => exact (Go.Ar.itoa_neg (by omega)).symm
 | false => exact (Go.Ar.itoa_nat n).symm
def iwrite_t : List AV → Option (List Cond × AV)
 | [x_x] => some ([.b (agOk Big x_x), .p (InL 1000000000 (agD (α := Big) x_x).l), .p (trimL (agD (α := Big) x_x).l = (agD (α := Big) x_x).l), .p ((agD (α := Big) x_x).l.length ≤ 100000000)], .str (itoa (bif (agD (α := Big) x_x).neg then - valL 1000000000 (agD (α := Big) x_x).l else valL 1000000000 (agD (α := Big) x_x).l)))
 | _ => none
theorem iwrite_vc (G : List (Nat × Obj)) (x : Big) (hx : InL 1000000000 x.l) (ht : trimL x.l = x.l) (hl : x.l.length ≤ 100000000) :
 let q1 := (bif Big.neg x then -valL iB (Big.l x) else valL iB (Big.l x)); let q3 := ((lZ (Big.l x)) - iO); let q2 := (DB.db (inK .i64 q3)); let q4 := (leB iZ q3); let q5 := (DB.db (iZ ≤ (lZ (Big.l x)) - iO ∧ (lZ (Big.l x)) - iO < (lZ (Big.l x)))); let q7 := (Int.toNat q3); let q6 := (iN ≤ gD (Big.l x) q7 Enc.dflt ∧ gD (Big.l x) q7 Enc.dflt ≤ iX); let q8 := (ltB q3 q3); let q12 := (itoa
 (gD (Big.l x) q7 Enc.dflt)); let q11 := (lZ q12); let q10 := ((9 : Int) - q11); let q9 := (DB.db (inK .i64 q10)); let q13 := (iZ ≤ (9 : Int) - q11 ∧ (9 : Int) - q11 ≤ (8 : Int)); let q15 := (List.replicate (Int.toNat q10) (48 : UInt8)); let q14 := (1 + lN q15); let q16 := (DB.db (inK .i64 ((lZ (Big.l x)) - iO - iO))); let q18 := (AV.xl false 1 (lN (Big.l x)) fun i j => aI (gD (Big.l x) i Enc.dflt)); let q17 := (180 = 180 ∧ 2 = 2 ∧ Big.neg x = Big.neg x ∧ avM q18 q18); bndL [AV.agg 2
 (Enc.enc x)] → bsplit ((lZ (Big.l x)) == iZ) (Array.toList (ByteArray.data (ByteArray.mk #[(48 : UInt8)])) = itoa q1) (bsplit (Big.neg x) (bsplit q2 (bsplit q4 (bsplit q5 (q6 ∧ bsplit q2 (bsplit q8 (bsplit q9 (q13 ∧ bsplit (DB.db (q14 * 1 ≤ 140737488355328)) (bsplit (DB.db ((1 + lN q15 + lN q12) * 1 ≤ 140737488355328)) (bsplit q16 ((∃ (z : Nat), ((z < lN (Big.l x) ∧ z < lN (Big.l x) + 1) ∧ nat_lit 4 = 4 ∧ (nat_lit 3 = 3 ∧ 0 = 0) ∧ kI ∧ (lZ (Big.l x)) - iO - iO = (↑z : Int) - iO) ∧
 ((((((q17 ∧ 108 = 108 ∧ 2 = 2 ∧ (1 = 1 ∧ 0 = 0) ∧ nat_lit 7 = 7 ∧ 0 = 0 ∧ lN (wrTx x z) = 1 + lN q15 + lN q12) ∧ True) ∧ 57 = 57 ∧ 1 = 1 ∧ avM q18 q18) ∧ LoopState.ready = LoopState.ready ∧ Non Code = Non Code) ∧ True) ∧ True) ∧ (5 : TypeId) = 5 ∧ 1 = 1 ∧ lN (wrTx x z) = 1 + lN q15 + lN q12 ∧ ∀ (i j : Nat), i < 1 + lN q15 + lN q12 → j < 1 → avM (if i < 1 + lN q15 then if i < 1 then Sx.rowAt [fun (x : Nat) => AV.v (Value.int IntKind.u8 (45 : Int))] i j else AV.v (Value.int IntKind.u8 (↑(UInt8.toNat (gD q15 (i
 - 1) (0 : UInt8))) : Int)) else AV.v (Value.int IntKind.u8 (↑(UInt8.toNat (gD q12 (i - q14) (0 : UInt8))) : Int))) (AV.v (Value.int IntKind.u8 (↑(UInt8.toNat (gD (wrTx x z) i (0 : UInt8))) : Int)))) ∧ ∀ (z : Nat), let q21 := (itoa (gD (Big.l x) (Int.toNat ((↑z : Int) - iO)) Enc.dflt)); let q20 := (lZ q21); let q19 := ((9 : Int) - q20); let q23 := (List.replicate (Int.toNat q19) (48 : UInt8)); let q22 := (lN (wrTx x z) + lN q23); let q24 := (DB.db (inK .i64 ((↑z : Int) - iO - iO))); z < lN (Big.l x) → bsplit
 (leB iZ ((↑z : Int) - iO)) (bsplit (DB.db (iZ ≤ (↑z : Int) - iO ∧ (↑z : Int) - iO < (lZ (Big.l x)))) ((iN ≤ gD (Big.l x) (Int.toNat ((↑z : Int) - iO)) Enc.dflt ∧ gD (Big.l x) (Int.toNat ((↑z : Int) - iO)) Enc.dflt ≤ iX) ∧ bsplit q2 (bsplit (ltB ((↑z : Int) - iO) q3) (bsplit (DB.db (inK .i64 q19)) ((iZ ≤ (9 : Int) - q20 ∧ (9 : Int) - q20 ≤ (8 : Int)) ∧ bsplit (DB.db (q22 * 1 ≤ 140737488355328)) (bsplit (DB.db ((lN (wrTx x z) + lN q23
 + lN q21) * 1 ≤ 140737488355328)) (bsplit q24 (∃ (z' : Nat), ((z' < lN (Big.l x) ∧ z' < z) ∧ nat_lit 4 = 4 ∧ (nat_lit 3 = 3 ∧ 0 = 0) ∧ kI ∧ (↑z : Int) - iO - iO = (↑z' : Int) - iO) ∧ ((((((q17 ∧ 108 = 108 ∧ 2 = 2 ∧ (1 = 1 ∧ 0 = 0) ∧ nat_lit 7 = 7 ∧ 0 = 0 ∧ lN (wrTx x z') = lN (wrTx x z) + lN q23 + lN q21) ∧ True) ∧ 57 = 57 ∧ 1 = 1 ∧ avM q18 q18) ∧ LoopState.ready = LoopState.ready ∧ Non Code = Non Code) ∧ True) ∧ True) ∧ (5 : TypeId) = 5 ∧ 1 = 1 ∧ lN (wrTx x z') = lN (wrTx x z) +
 lN q23 + lN q21 ∧ ∀ (i j : Nat), i < lN (wrTx x z) + lN q23 + lN q21 → j < 1 → avM (if i < lN (wrTx x z) + lN q23 then if i < lN (wrTx x z) then AV.v (Value.int IntKind.u8 (↑(UInt8.toNat (gD (wrTx x z) i (0 : UInt8))) : Int)) else AV.v (Value.int IntKind.u8 (↑(UInt8.toNat (gD q23 (i - lN (wrTx x z)) (0 : UInt8))) : Int)) else AV.v (Value.int IntKind.u8 (↑(UInt8.toNat (gD q21 (i - q22) (0 : UInt8))) : Int))) (AV.v (Value.int IntKind.u8 (↑(UInt8.toNat (gD (wrTx x z') i (0 : UInt8))) :
 Int)))) False) False) False) False) (bsplit (DB.db ((lN (wrTx x z) + lN q21) * 1 ≤ 140737488355328)) (bsplit q24 (∃ (z' : Nat), ((z' < lN (Big.l x) ∧ z' < z) ∧ nat_lit 4 = 4 ∧ (nat_lit 3 = 3 ∧ 0 = 0) ∧ kI ∧ (↑z : Int) - iO - iO = (↑z' : Int) - iO) ∧ ((((((q17 ∧ 108 = 108 ∧ 2 = 2 ∧ (1 = 1 ∧ 0 = 0) ∧ nat_lit 7 = 7 ∧ 0 = 0 ∧ lN (wrTx x z') = lN (wrTx x z) + lN q21) ∧ True) ∧ 57 = 57 ∧ 1 = 1 ∧ avM q18 q18) ∧ LoopState.ready = LoopState.ready ∧ Non Code = Non Code) ∧ True) ∧ True) ∧ (5 : TypeId) = 5 ∧ 1 = 1 ∧
 lN (wrTx x z') = lN (wrTx x z) + lN q21 ∧ ∀ (i j : Nat), i < lN (wrTx x z) + lN q21 → j < 1 → avM (if i < lN (wrTx x z) then AV.v (Value.int IntKind.u8 (↑(UInt8.toNat (gD (wrTx x z) i (0 : UInt8))) : Int)) else AV.v (Value.int IntKind.u8 (↑(UInt8.toNat (gD q21 (i - lN (wrTx x z)) (0 : UInt8))) : Int))) (AV.v (Value.int IntKind.u8 (↑(UInt8.toNat (gD (wrTx x z') i (0 : UInt8))) : Int)))) False) False)) False) False) (0 < lN (wrTx x z) ∧ ∃ (l : List UInt8), lN l = lN (wrTx x z) ∧ (∀ (i :
 Nat), i < lN (wrTx x z) → AV.v (Value.int IntKind.u8 (↑(UInt8.toNat (gD (wrTx x z) i (0 : UInt8))) : Int)) = AV.v (Value.int IntKind.u8 (↑(UInt8.toNat (gD l i (0 : UInt8))) : Int))) ∧ l = itoa q1)) False) False) False) False) (bsplit (DB.db ((1 + lN q12) * 1 ≤ 140737488355328)) (bsplit q16 ((∃ (z : Nat), ((z < lN (Big.l x) ∧ z < lN (Big.l x) + 1) ∧ nat_lit 4 = 4 ∧ (nat_lit 3 = 3 ∧ 0 = 0) ∧ kI ∧ (lZ (Big.l x)) - iO - iO = (↑z : Int) - iO) ∧ (((((q17 ∧ 108 = 108 ∧ 2 = 2 ∧ (1 = 1 ∧ 0 = 0) ∧
 nat_lit 6 = 6 ∧ 0 = 0 ∧ lN (wrTx x z) = 1 + lN q12) ∧ True) ∧ 57 = 57 ∧ 1 = 1 ∧ avM q18 q18) ∧ LoopState.ready = LoopState.ready ∧ Non Code = Non Code) ∧ True) ∧ (5 : TypeId) = 5 ∧ 1 = 1 ∧ lN (wrTx x z) = 1 + lN q12 ∧ ∀ (i j : Nat), i < 1 + lN q12 → j < 1 → avM (if i < 1 then Sx.rowAt [fun (x : Nat) => AV.v (Value.int IntKind.u8 (45 : Int))] i j else AV.v (Value.int IntKind.u8 (↑(UInt8.toNat (gD q12 (i - 1) (0 : UInt8))) : Int))) (AV.v (Value.int IntKind.u8 (↑(UInt8.toNat (gD (wrTx x z) i (0 : UInt8))) : Int)))) ∧ ∀ (z : Nat), let q27
 := (itoa (gD (Big.l x) (Int.toNat ((↑z : Int) - iO)) Enc.dflt)); let q26 := (lZ q27); let q25 := ((9 : Int) - q26); let q29 := (List.replicate (Int.toNat q25) (48 : UInt8)); let q28 := (lN (wrTx x z) + lN q29); let q30 := (DB.db (inK .i64 ((↑z : Int) - iO - iO))); z < lN (Big.l x) → bsplit (leB iZ ((↑z : Int) - iO)) (bsplit (DB.db (iZ ≤ (↑z : Int) - iO ∧ (↑z : Int) - iO < (lZ (Big.l x)))) ((iN ≤ gD (Big.l x) (Int.toNat ((↑z : Int) - (1 :
 Int))) Enc.dflt ∧ gD (Big.l x) (Int.toNat ((↑z : Int) - iO)) Enc.dflt ≤ iX) ∧ bsplit q2 (bsplit (ltB ((↑z : Int) - iO) q3) (bsplit (DB.db (inK .i64 q25)) ((iZ ≤ (9 : Int) - q26 ∧ (9 : Int) - q26 ≤ (8 : Int)) ∧ bsplit (DB.db (q28 * 1 ≤ 140737488355328)) (bsplit (DB.db ((lN (wrTx x z) + lN q29 + lN q27) * 1 ≤ 140737488355328)) (bsplit q30 (∃ (z' : Nat), ((z' < lN (Big.l x) ∧ z' < z) ∧ nat_lit 4 = 4 ∧ (nat_lit 3 = 3 ∧ 0 = 0) ∧ kI ∧ (↑z : Int) - iO - iO = (↑z' : Int) - iO) ∧
 (((((q17 ∧ 108 = 108 ∧ 2 = 2 ∧ (1 = 1 ∧ 0 = 0) ∧ nat_lit 6 = 6 ∧ 0 = 0 ∧ lN (wrTx x z') = lN (wrTx x z) + lN q29 + lN q27) ∧ True) ∧ 57 = 57 ∧ 1 = 1 ∧ avM q18 q18) ∧ LoopState.ready = LoopState.ready ∧ Non Code = Non Code) ∧ True) ∧ (5 : TypeId) = 5 ∧ 1 = 1 ∧ lN (wrTx x z') = lN (wrTx x z) + lN q29 + lN q27 ∧ ∀ (i j : Nat), i < lN (wrTx x z) + lN q29 + lN q27 → j < 1 → avM (if i < lN (wrTx x z) + lN q29 then if i < lN (wrTx x z) then AV.v (Value.int IntKind.u8
 (↑(UInt8.toNat (gD (wrTx x z) i (0 : UInt8))) : Int)) else AV.v (Value.int IntKind.u8 (↑(UInt8.toNat (gD q29 (i - lN (wrTx x z)) (0 : UInt8))) : Int)) else AV.v (Value.int IntKind.u8 (↑(UInt8.toNat (gD q27 (i - q28) (0 : UInt8))) : Int))) (AV.v (Value.int IntKind.u8 (↑(UInt8.toNat (gD (wrTx x z') i (0 : UInt8))) : Int)))) False) False) False) False) (bsplit (DB.db ((lN (wrTx x z) + lN q27) * 1 ≤ 140737488355328)) (bsplit q30 (∃ (z' : Nat), ((z' < lN (Big.l x) ∧ z' < z) ∧ nat_lit 4 = 4 ∧ (nat_lit 3 = 3 ∧ 0 = 0) ∧ kI
 ∧ (↑z : Int) - iO - iO = (↑z' : Int) - iO) ∧ (((((q17 ∧ 108 = 108 ∧ 2 = 2 ∧ (1 = 1 ∧ 0 = 0) ∧ nat_lit 6 = 6 ∧ 0 = 0 ∧ lN (wrTx x z') = lN (wrTx x z) + lN q27) ∧ True) ∧ 57 = 57 ∧ 1 = 1 ∧ avM q18 q18) ∧ LoopState.ready = LoopState.ready ∧ Non Code = Non Code) ∧ True) ∧ (5 : TypeId) = 5 ∧ 1 = 1 ∧ lN (wrTx x z') = lN (wrTx x z) + lN q27 ∧ ∀ (i j : Nat), i < lN (wrTx x z) + lN q27 → j < 1 → avM (if i < lN (wrTx x z) then AV.v (Value.int IntKind.u8 (↑(UInt8.toNat (gD (wrTx x z) i (0 :
 UInt8))) : Int)) else AV.v (Value.int IntKind.u8 (↑(UInt8.toNat (gD q27 (i - lN (wrTx x z)) (0 : UInt8))) : Int))) (AV.v (Value.int IntKind.u8 (↑(UInt8.toNat (gD (wrTx x z') i (0 : UInt8))) : Int)))) False) False)) False) False) (0 < lN (wrTx x z) ∧ ∃ (l : List UInt8), lN l = lN (wrTx x z) ∧ (∀ (i : Nat), i < lN (wrTx x z) → AV.v (Value.int IntKind.u8 (↑(UInt8.toNat (gD (wrTx x z) i (0 : UInt8))) : Int)) = AV.v (Value.int IntKind.u8 (↑(UInt8.toNat (gD l i (0 : UInt8))) : Int))) ∧ l = itoa q1)) False) False)) False) False)
 (0 < 1 ∧ ∃ (l : List UInt8), lN l = 1 ∧ (∀ (i : Nat), i < 1 → Sx.rowAt [fun (x : Nat) => AV.v (Value.int IntKind.u8 (45 : Int))] i 0 = AV.v (Value.int IntKind.u8 (↑(UInt8.toNat (gD l i (0 : UInt8))) : Int))) ∧ l = itoa q1)) False) (bsplit q2 (bsplit q4 (bsplit q5 (q6 ∧ bsplit q2 (bsplit q8 (bsplit q9 (q13 ∧ bsplit (DB.db (lN q15 * 1 ≤ 140737488355328)) (bsplit (DB.db ((lN q15 + lN q12) * 1 ≤ 140737488355328)) (bsplit q16 ((∃ (z : Nat), ((z < lN (Big.l x) ∧ z < lN (Big.l x) + 1) ∧ nat_lit 3 = 3 ∧ (nat_lit 2 = 2 ∧ 0 = 0) ∧ IntKind.i64 =
 .i64 ∧ (lZ (Big.l x)) - iO - iO = (↑z : Int) - iO) ∧ (((((q17 ∧ 108 = 108 ∧ 2 = 2 ∧ (1 = 1 ∧ 0 = 0) ∧ nat_lit 6 = 6 ∧ 0 = 0 ∧ lN (wrTx x z) = lN q15 + lN q12) ∧ 57 = 57 ∧ 1 = 1 ∧ avM q18 q18) ∧ LoopState.ready = LoopState.ready ∧ Non Code = Non Code) ∧ True) ∧ True) ∧ (5 : TypeId) = 5 ∧ 1 = 1 ∧ lN (wrTx x z) = lN q15 + lN q12 ∧ ∀ (i j : Nat), i < lN q15 + lN q12 → j < 1 → avM (if i < lN q15 then AV.v (Value.int IntKind.u8 (↑(UInt8.toNat (gD q15 i (0 : UInt8))) : Int))
 else AV.v (Value.int IntKind.u8 (↑(UInt8.toNat (gD q12 (i - lN q15) (0 : UInt8))) : Int))) (AV.v (Value.int IntKind.u8 (↑(UInt8.toNat (gD (wrTx x z) i (0 : UInt8))) : Int)))) ∧ ∀ (z : Nat), let q33 := (itoa (gD (Big.l x) (Int.toNat ((↑z : Int) - iO)) Enc.dflt)); let q32 := (lZ q33); let q31 := ((9 : Int) - q32); let q35 := (List.replicate (Int.toNat q31) (48 : UInt8)); let q34 := (lN (wrTx x z) + lN q35); let q36 := (DB.db (inK .i64 ((↑z : Int) - iO - iO))); z < lN (Big.l x) → bsplit (leB iZ
 ((↑z : Int) - iO)) (bsplit (DB.db (iZ ≤ (↑z : Int) - iO ∧ (↑z : Int) - iO < (lZ (Big.l x)))) ((iN ≤ gD (Big.l x) (Int.toNat ((↑z : Int) - iO)) Enc.dflt ∧ gD (Big.l x) (Int.toNat ((↑z : Int) - iO)) Enc.dflt ≤ iX) ∧ bsplit q2 (bsplit (ltB ((↑z : Int) - iO) q3) (bsplit (DB.db (inK .i64 q31)) ((iZ ≤ (9 : Int) - q32 ∧ (9 : Int) - q32 ≤ (8 : Int)) ∧ bsplit (DB.db (q34 * 1 ≤ 140737488355328)) (bsplit (DB.db ((lN (wrTx x z) + lN q35 + List.length
 q33) * 1 ≤ 140737488355328)) (bsplit q36 (∃ (z' : Nat), ((z' < lN (Big.l x) ∧ z' < z) ∧ nat_lit 3 = 3 ∧ (nat_lit 2 = 2 ∧ 0 = 0) ∧ kI ∧ (↑z : Int) - iO - iO = (↑z' : Int) - iO) ∧ (((((q17 ∧ 108 = 108 ∧ 2 = 2 ∧ (1 = 1 ∧ 0 = 0) ∧ nat_lit 6 = 6 ∧ 0 = 0 ∧ lN (wrTx x z') = lN (wrTx x z) + lN q35 + lN q33) ∧ 57 = 57 ∧ 1 = 1 ∧ avM q18 q18) ∧ LoopState.ready = LoopState.ready ∧ Non Code = Non Code) ∧ True) ∧ True) ∧ (5 : TypeId) = 5 ∧ 1 = 1 ∧ lN (wrTx x z') = lN (wrTx x z) + lN q35 + List.length
 q33 ∧ ∀ (i j : Nat), i < lN (wrTx x z) + lN q35 + lN q33 → j < 1 → avM (if i < lN (wrTx x z) + lN q35 then if i < lN (wrTx x z) then AV.v (Value.int IntKind.u8 (↑(UInt8.toNat (gD (wrTx x z) i (0 : UInt8))) : Int)) else AV.v (Value.int IntKind.u8 (↑(UInt8.toNat (gD q35 (i - lN (wrTx x z)) (0 : UInt8))) : Int)) else AV.v (Value.int IntKind.u8 (↑(UInt8.toNat (gD q33 (i - q34) (0 : UInt8))) : Int))) (AV.v (Value.int IntKind.u8 (↑(UInt8.toNat (gD (wrTx x z') i (0 : UInt8))) : Int)))) False) False) False)
 False) (bsplit (DB.db ((lN (wrTx x z) + lN q33) * 1 ≤ 140737488355328)) (bsplit q36 (∃ (z' : Nat), ((z' < lN (Big.l x) ∧ z' < z) ∧ nat_lit 3 = 3 ∧ (nat_lit 2 = 2 ∧ 0 = 0) ∧ kI ∧ (↑z : Int) - iO - iO = (↑z' : Int) - iO) ∧ (((((q17 ∧ 108 = 108 ∧ 2 = 2 ∧ (1 = 1 ∧ 0 = 0) ∧ nat_lit 6 = 6 ∧ 0 = 0 ∧ lN (wrTx x z') = lN (wrTx x z) + lN q33) ∧ 57 = 57 ∧ 1 = 1 ∧ avM q18 q18) ∧ LoopState.ready = LoopState.ready ∧ Non Code = Non Code) ∧ True) ∧ True) ∧ (5 : TypeId) = 5 ∧ 1 = 1 ∧ lN (wrTx x z') = List.length
 (wrTx x z) + lN q33 ∧ ∀ (i j : Nat), i < lN (wrTx x z) + lN q33 → j < 1 → avM (if i < lN (wrTx x z) then AV.v (Value.int IntKind.u8 (↑(UInt8.toNat (gD (wrTx x z) i (0 : UInt8))) : Int)) else AV.v (Value.int IntKind.u8 (↑(UInt8.toNat (gD q33 (i - lN (wrTx x z)) (0 : UInt8))) : Int))) (AV.v (Value.int IntKind.u8 (↑(UInt8.toNat (gD (wrTx x z') i (0 : UInt8))) : Int)))) False) False)) False) False) (0 < lN (wrTx x z) ∧ ∃ (l : List UInt8), lN l = lN (wrTx x z) ∧ (∀ (i : Nat), i < lN (wrTx x z) →
 AV.v (Value.int IntKind.u8 (↑(UInt8.toNat (gD (wrTx x z) i (0 : UInt8))) : Int)) = AV.v (Value.int IntKind.u8 (↑(UInt8.toNat (gD l i (0 : UInt8))) : Int))) ∧ l = itoa q1)) False) False) False) False) (bsplit (DB.db (lN q12 * 1 ≤ 140737488355328)) (bsplit q16 ((∃ (z : Nat), ((z < lN (Big.l x) ∧ z < lN (Big.l x) + 1) ∧ nat_lit 3 = 3 ∧ (nat_lit 2 = 2 ∧ 0 = 0) ∧ kI ∧ (lZ (Big.l x)) - iO - iO = (↑z : Int) - iO) ∧ ((((q17 ∧ 108 = 108 ∧ 2 = 2 ∧ (1 = 1 ∧ 0 = 0) ∧ nat_lit 5 = 5 ∧ 0 = 0 ∧ lN (wrTx x
 z) = lN q12) ∧ 57 = 57 ∧ 1 = 1 ∧ avM q18 q18) ∧ LoopState.ready = LoopState.ready ∧ Non Code = Non Code) ∧ True) ∧ (5 : TypeId) = 5 ∧ 1 = 1 ∧ lN (wrTx x z) = lN q12 ∧ ∀ (i j : Nat), i < lN q12 → j < 1 → IntKind.u8 = IntKind.u8 ∧ (↑(UInt8.toNat (gD q12 i (0 : UInt8))) : Int) = (↑(UInt8.toNat (gD (wrTx x z) i (0 : UInt8))) : Int)) ∧ ∀ (z : Nat), let q39 := (itoa (gD (Big.l x) (Int.toNat ((↑z : Int) - iO)) Enc.dflt)); let q38 := (lZ q39); let q37 := ((9 : Int) - q38); let q41 := (List.replicate (Int.toNat q37) (48 :
 UInt8)); let q40 := (lN (wrTx x z) + lN q41); let q42 := (DB.db (inK .i64 ((↑z : Int) - iO - iO))); z < lN (Big.l x) → bsplit (leB iZ ((↑z : Int) - iO)) (bsplit (DB.db (iZ ≤ (↑z : Int) - iO ∧ (↑z : Int) - iO < (lZ (Big.l x)))) ((iN ≤ gD (Big.l x) (Int.toNat ((↑z : Int) - iO)) Enc.dflt ∧ gD (Big.l x) (Int.toNat ((↑z : Int) - iO)) Enc.dflt ≤ iX) ∧ bsplit q2 (bsplit (ltB ((↑z : Int) - iO) q3) (bsplit (DB.db (inK .i64
 q37)) ((iZ ≤ (9 : Int) - q38 ∧ (9 : Int) - q38 ≤ (8 : Int)) ∧ bsplit (DB.db (q40 * 1 ≤ 140737488355328)) (bsplit (DB.db ((lN (wrTx x z) + lN q41 + lN q39) * 1 ≤ 140737488355328)) (bsplit q42 (∃ (z' : Nat), ((z' < lN (Big.l x) ∧ z' < z) ∧ nat_lit 3 = 3 ∧ (nat_lit 2 = 2 ∧ 0 = 0) ∧ kI ∧ (↑z : Int) - iO - iO = (↑z' : Int) - iO) ∧ ((((q17 ∧ 108 = 108 ∧ 2 = 2 ∧ (1 = 1 ∧ 0 = 0) ∧ nat_lit 5 = 5 ∧ 0 = 0 ∧ lN (wrTx x z') = lN (wrTx x z) + lN q41 + lN q39) ∧ 57 = 57 ∧ 1 = 1 ∧ avM q18 q18) ∧
 LoopState.ready = LoopState.ready ∧ Non Code = Non Code) ∧ True) ∧ (5 : TypeId) = 5 ∧ 1 = 1 ∧ lN (wrTx x z') = lN (wrTx x z) + lN q41 + lN q39 ∧ ∀ (i j : Nat), i < lN (wrTx x z) + lN q41 + lN q39 → j < 1 → avM (if i < lN (wrTx x z) + lN q41 then if i < lN (wrTx x z) then AV.v (Value.int IntKind.u8 (↑(UInt8.toNat (gD (wrTx x z) i (0 : UInt8))) : Int)) else AV.v (Value.int IntKind.u8 (↑(UInt8.toNat (gD q41 (i - lN (wrTx x z)) (0 : UInt8))) : Int)) else AV.v (Value.int IntKind.u8
 (↑(UInt8.toNat (gD q39 (i - q40) (0 : UInt8))) : Int))) (AV.v (Value.int IntKind.u8 (↑(UInt8.toNat (gD (wrTx x z') i (0 : UInt8))) : Int)))) False) False) False) False) (bsplit (DB.db ((lN (wrTx x z) + lN q39) * 1 ≤ 140737488355328)) (bsplit q42 (∃ (z' : Nat), ((z' < lN (Big.l x) ∧ z' < z) ∧ nat_lit 3 = 3 ∧ (nat_lit 2 = 2 ∧ 0 = 0) ∧ kI ∧ (↑z : Int) - iO - iO = (↑z' : Int) - iO) ∧ ((((q17 ∧ 108 = 108 ∧ 2 = 2 ∧ (1 = 1 ∧ 0 = 0) ∧ nat_lit 5 = 5 ∧ 0 = 0 ∧ lN (wrTx x z') = lN (wrTx x z) + lN q39)
 ∧ 57 = 57 ∧ 1 = 1 ∧ avM q18 q18) ∧ LoopState.ready = LoopState.ready ∧ Non Code = Non Code) ∧ True) ∧ (5 : TypeId) = 5 ∧ 1 = 1 ∧ lN (wrTx x z') = lN (wrTx x z) + lN q39 ∧ ∀ (i j : Nat), i < lN (wrTx x z) + lN q39 → j < 1 → avM (if i < lN (wrTx x z) then AV.v (Value.int IntKind.u8 (↑(UInt8.toNat (gD (wrTx x z) i (0 : UInt8))) : Int)) else AV.v (Value.int IntKind.u8 (↑(UInt8.toNat (gD q39 (i - lN (wrTx x z)) (0 : UInt8))) : Int))) (AV.v (Value.int IntKind.u8 (↑(UInt8.toNat (gD (wrTx x z') i (0 : UInt8))) : Int))))
 False) False)) False) False) (0 < lN (wrTx x z) ∧ ∃ (l : List UInt8), lN l = lN (wrTx x z) ∧ (∀ (i : Nat), i < lN (wrTx x z) → AV.v (Value.int IntKind.u8 (↑(UInt8.toNat (gD (wrTx x z) i (0 : UInt8))) : Int)) = AV.v (Value.int IntKind.u8 (↑(UInt8.toNat (gD l i (0 : UInt8))) : Int))) ∧ l = itoa q1)) False) False)) False) False) ([] = itoa q1)) False)) := by
 delta kI lZ lN gD iZ iO iX iN iB aI
 dsimp only
 intro hb
 have e0 : (Enc.dflt : Int) = 0 := rfl
 simp only [↓vc_db, ↓vc_gdb, row_one]
 simp only [sS, dS, e0]
 refine ⟨fun hz => ?_, fun hz => ?_⟩
 ·have he : x.l = [] := List.eq_nil_of_length_eq_zero (by omega)
  rw [he]
  have : itoa ((0 : Nat) : Int) = [48] := by rw [Go.Ar.itoa_nat, decDigits_small (by omega)]; rfl
  cases x.neg <;> exact this.symm
 have h0 : 0 < x.l.length := by omega
 have en : ((x.l.length : Int) - 1).toNat = x.l.length - 1 := by omega
 have ez : ∀ z : Nat, ((z : Int) - 1).toNat = z - 1 := fun z => by omega
 simp only [en, ez, Nat.mul_one]
 have gN := hx.get (by omega) (x.l.length - 1)
 obtain ⟨i1, i2, i3⟩ := itoa_limb gN.1 gN.2
 have f1 := wr_first hx h0
 refine bsplit_iff.2 ⟨fun c => ⟨⟨by omega, by omega⟩, fun _ => ⟨⟨by omega, by omega⟩, ⟨by omega, by omega⟩, ⟨by omega, by omega⟩, fun h => absurd h (by omega), fun _ => ⟨by omega, ⟨by omega, by omega⟩, ⟨x.l.length - 1, ⟨⟨by omega, by omega⟩, by omega⟩, ?_, ?_, fun i j _ _ => ?_⟩, ?_⟩⟩, fun h => absurd h (by omega)⟩,
  fun c => ⟨⟨by omega, by omega⟩, fun _ => ⟨⟨by omega, by omega⟩, ⟨by omega, by omega⟩, ⟨by omega, by omega⟩, fun h => absurd h (by omega), fun _ => ⟨by omega, ⟨by omega, by omega⟩, ⟨x.l.length - 1, ⟨⟨by omega, by omega⟩, by omega⟩, ?_, ?_, fun i j _ _ => ?_⟩, ?_⟩⟩, fun h => absurd h (by omega)⟩⟩
 all_goals try rw [c] at f1
 ·rw [f1]; simp only [cond_true, List.length_append, List.length_singleton]
 ·rw [f1]; simp only [cond_true, List.length_append, List.length_singleton]
 ·rw [f1]; exact cat1 45 _ i
 rotate_left
 ·rw [f1]; rfl
 ·rw [f1]; rfl
 ·rw [f1]; rfl
 all_goals
  intro z hz1
  have wl := wr_len hx z
  refine ⟨fun hz2 => ?_, fun hz2 => ?_⟩
  ·have g := hx.get (by omega) (z - 1)
   obtain ⟨g1, g2, g3⟩ := itoa_limb g.1 g.2
   have hs := wr_step hx ht (z := z) (by omega) hz1
   have lr : (List.replicate (9 - ((itoa (x.l.getD (z - 1) 0)).length : Int)).toNat (48 : UInt8)).length ≤ 8 := by rw [List.length_replicate]; omega
   refine ⟨⟨by omega, by omega⟩, ⟨by omega, by omega⟩, ⟨by omega, by omega⟩, fun _ => ⟨⟨by omega, by omega⟩, ⟨by omega, by omega⟩, by omega, by omega, ⟨by omega, by omega⟩, z - 1, ⟨⟨by omega, by omega⟩, by omega⟩, ?_, ?_, fun i j _ _ => ?_⟩, fun h => absurd h (by omega)⟩
   ·rw [hs, List.length_append, List.length_append]
   ·rw [hs, List.length_append, List.length_append]
   ·rw [hs]; exact cat3 _ _ _ i
  ·obtain rfl : z = 0 := by omega
   obtain ⟨w1, w2⟩ := wr_end hx ht h0
   exact ⟨w2, wrTx x 0, rfl, fun _ _ => rfl, w1⟩
theorem iwrite_C {G : List (Nat × Obj)} (hG : TabIn G) (x : Big) (hx : InL 1000000000 x.l) (ht : trimL x.l = x.l) (hl : x.l.length ≤ 100000000) : PureCall Tryz.prog G 205 [agE x] (.str (itoa (bif x.neg then - valL 1000000000 x.l else valL 1000000000 x.l))) :=
 pure_of_vc (T := TWr G) (an := iwr_an x) mixed (TWr_sound hG) (Eq.mp (by kernel_rfl) (iwrite_vc G x hx ht hl))
theorem iwrite_T {G : List (Nat × Obj)} (hG : TabIn G) : PureT Tryz.prog G 205 iwrite_t := by
 intro xs ps r h hp
 unfold iwrite_t at h
 split at h
 ·skip
  rename_i x_x
  cases h
  obtain ⟨q0, q1, q2, q3, -⟩ := allC hp
  exact weaken (ys := [agE (agD (α := Big) x_x)]) ⟨agE_sound q0, trivial⟩ (iwrite_C hG (agD (α := Big) x_x) q1 q2 q3)
 ·cases h
end Go.Te
