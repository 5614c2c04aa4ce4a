/- Contracts: strconv.Itoa, strings.Count, nest.Print. -/
import Derived.Test.YtojonobehnbeiaaGreatDoorTzH
import Derived.Lib.ItoaLen
namespace Go.Tz
open Go Go.Sx Go.Proofs Go.Shelf
set_option maxRecDepth 100000
set_option maxHeartbeats 4000000
theorem PureCall.mono {P : Program} {G : List (Nat × Obj)} {f : FuncId} {xs : List AV} {r : AV} (h : PureCall P [] f xs r) : PureCall P G f xs r :=
  ⟨h.1, fun w S vals hS _ hr => h.2 w S vals hS (fun b o hbo => by cases hbo) hr⟩
theorem FreshCall.mono {P : Program} {G : List (Nat × Obj)} {f : FuncId} {xs : List AV} {t : TypeId} {sz len : Nat} {els : Nat → Nat → AV} (h : FreshCall P [] f xs t sz len els) : FreshCall P G f xs t sz len els :=
  ⟨h.1, fun w S vals hS _ hr => h.2 w S vals hS (fun b o hbo => by cases hbo) hr⟩
theorem PureT.mono {P : Program} {G : List (Nat × Obj)} {f : FuncId} {t : List AV → Option (List Cond × AV)} (h : PureT P [] f t) : PureT P G f t := fun xs ps r e hp => PureCall.mono (h xs ps r e hp)
def TabIn (G : List (Nat × Obj)) : Prop := ∃ g t fr, Tryz.prog.globalNamed "internal/strconv.uint64pow10" = some g ∧ (g, Obj.cells (Lib.pow10Tab.map fun z => Value.int .u64 z).toArray t fr) ∈ G
def itoa_t : List AV → Option (List Cond × AV)
  | [.v (.int .i64 n)] => some ([.p (inK .i64 n)], .str (Lib.itoa n))
  | _ => none
theorem itoa_T {G : List (Nat × Obj)} (hG : TabIn G) : PureT Tryz.prog G 56 itoa_t := by
  intro xs ps r h hp
  unfold itoa_t at h
  split at h
  · rename_i n
    cases h
    have hn : inK .i64 n := hp _ List.mem_cons_self
    simp only [inK] at hn
    refine ⟨enters_of Tryz.func56 (by kernel_rfl) rfl, fun w S vals hS hg hr => ?_⟩
    match vals, hr with
    | [v], ⟨hv, _⟩ =>
    obtain rfl := rel_v hv
    obtain ⟨g, t, fr, hname, hmem⟩ := hG
    have htab : Lib.TabIs Tryz.prog w "internal/strconv.uint64pow10" .u64 Lib.pow10Tab := by
      unfold Lib.TabIs World.var?
      rw [hname]
      simp only [Option.bind_some, (hg _ _ hmem).2]
    refine (Tryz.strconv_Itoa n hn.1 hn.2 w htab).mono ?_
    rintro e w' ⟨rfl, k, os, rfl⟩
    exact ⟨⟨⟨rfl, rfl, rfl, by simp [Go.Sort.grow, World.drewN], fun b hb => by simp [Go.Sort.grow, World.drewN, Array.getElem?_append, hb]⟩, by simp [Go.Sort.grow, World.drewN]⟩, _, rfl, .str _⟩
  · cases h
def pairTx (p q : Int) : List UInt8 := [32] ++ Lib.itoa p ++ [64] ++ Lib.itoa q
def psTx (ps at_ : List Int) : Nat → List UInt8
  | 0 => []
  | i + 1 => psTx ps at_ i ++ pairTx (ps.getD i 0) (at_.getD i 0)
def barTx (u : Used) : List UInt8 := Lib.itoa u.bar ++ psTx u.ps u.at_ u.ps.length ++ [10]
def usedTx (l : List Used) : Nat → List UInt8
  | 0 => []
  | i + 1 => usedTx l i ++ barTx (l.getD i Enc.dflt)
def pBad (u : Used) : Bool := ltB u.bar 0 || u.ps.any pNeg || u.at_.any pNeg
def printE (l : List Used) : Int :=
  bif ltB 64 (l.length : Int) || l.any pLong then 4 else bif l.any pOdd then 9 else bif l.any pBad then 2 else 0
def printS (l : List Used) : List UInt8 := bif printE l == 0 then usedTx l l.length else []
def Tb.own1 (T : Tb) (f : FuncId) (t : Nat → (Nat → OB) → List AV → (Nat → (Nat → OB) → AV → Prop) → Prop) : Tb := { T with own := fun g => bif Nat.beq g f then some t else T.own g }
theorem TbSound.own1 {P : Program} {T : Tb} (hT : TbSound P T) {f : FuncId} {t : Nat → (Nat → OB) → List AV → (Nat → (Nat → OB) → AV → Prop) → Prop} (ht : OwnT P T.objs f t) : TbSound P (Tb.own1 T f t) := by
  refine ⟨fun g t' h => ?_, hT.pu, hT.fre⟩
  simp only [Tb.own1] at h
  cases hx : Nat.beq g f with
  | false => rw [hx] at h; exact hT.own _ _ h
  | true =>
    rw [hx] at h
    obtain rfl := Nat.eq_of_beq_eq_true hx
    cases h
    exact ht
noncomputable def TP0 (G : List (Nat × Obj)) (l : List Used) : Tb :=
  Tb.own1 (Tb.own1 ((((tb0 G).plus 51 (con14_t l)).plus 45 con18_t).plus 56 itoa_t) 86 ccO) 58 strO
theorem TP0_sound {G : List (Nat × Obj)} (hG : TabIn G) (l : List Used) : TbSound Tryz.prog (TP0 G l) :=
  TbSound.own1 (TbSound.own1 (TbSound.plus (TbSound.plus (TbSound.plus tb0_sound (PureT.mono (con14_T l))) (PureT.mono con18_T)) (itoa_T hG)) (cc_own G)) (str_own G)
noncomputable def TP (G : List (Nat × Obj)) (l : List Used) : Tb := (TP0 G l).body Tryz.prog [(55, .auto), (57, .auto)]
theorem TP_sound {G : List (Nat × Obj)} (hG : TabIn G) (l : List Used) : TbSound Tryz.prog (TP G l) := TbSound.body mixed (TP0_sound hG l) _
def AV.byte : AV → UInt8
  | .v (.int .u8 n) => UInt8.ofNat n.toNat
  | _ => 0
structure PIn where
  j : Nat
  tx : List UInt8
def pr_in : Ann := .loop PIn (fun σ z => [(0, σ.tm 0), (4, σ.tm 4), (5, σ.tm 5), (7, σ.tm 7), (19, σ.tm 19), (20, σ.tm 20), (21, σ.tm 21), (45, σ.tm 45), (46, σ.tm 46), (47, .i z.j)])
  (fun σ z => [(0, .box 90 2 (listFn [.np 0 0, .ns σ.nb 0 z.tx.length])), (blkAt (boxAt σ 5 1), .dead), (σ.nb, .arr 5 1 z.tx.length (bytesF z.tx))]) 1
  (fun σ z => z.j ≤ lenAt σ (boxAt σ 7 1) ∧ z.tx = listOf (lenAt σ (boxAt σ 5 1)) (fun i => AV.byte (elsAt σ (boxAt σ 5 1) i 0)) ++ psTx (rdI (boxAt σ 7 1)) (rdI (boxAt σ 7 2)) z.j) (fun σ z => lenAt σ (boxAt σ 7 1) - z.j) .auto
def pr_bd : Ann := .two .auto (.two .auto (.two (.one (.two .auto (.two .auto (.two .auto (.two (.two .auto (.one pr_in)) .auto))))) .auto))
def pr_out (l : List Used) : Ann := .two pr_bd (.unroll (l.length + 1) (.loop Nat (fun σ z => [(0, σ.tm 0), (4, σ.tm 4), (5, σ.tm 5), (19, σ.tm 19), (20, σ.tm 20), (21, .i z)])
  (fun σ z => [(0, .box 90 2 (listFn [.np 0 0, .ns σ.nb 0 (usedTx l z).length])), (σ.nb, .arr 5 1 (usedTx l z).length (bytesF (usedTx l z)))] ++ (List.range σ.nb).map fun i => (i, .dead)) 1
  (fun _ z => 1 ≤ z ∧ z ≤ l.length ∧ ∀ i, i < z → pBad (l.getD i Enc.dflt) = false) (fun _ z => l.length - z) pr_bd))
def print_an (l : List Used) : Ann := .two .auto (.two .auto (.two .auto (.two .auto (.two .auto (.two (.two .auto (.one (pr_out l))) .auto)))))
def InR (l : List Used) : Prop := ∀ i, inK .i64 (l.getD i Enc.dflt).bar ∧ ∀ j, inK .i64 ((l.getD i Enc.dflt).ps.getD j 0) ∧ inK .i64 ((l.getD i Enc.dflt).at_.getD j 0)
theorem byteAt (x : UInt8) : AV.byte (.v (.int .u8 (x.toNat : Nat))) = x := by
  show UInt8.ofNat (Int.toNat ((x.toNat : Nat) : Int)) = x
  rw [Int.toNat_natCast, UInt8.ofNat_toNat]
theorem L1 (t : List UInt8) : (listOf t.length fun i => AV.byte (.v (.int .u8 ((t.getD i 0).toNat : Nat)))) = t := by
  rw [show (fun i => AV.byte (.v (.int .u8 ((t.getD i 0).toNat : Nat)))) = fun i => t.getD i 0 from funext fun i => byteAt _]
  exact listOf_getD t 0
theorem getD_app (a b : List UInt8) (i : Nat) : (a ++ b).getD i 0 = if i < a.length then a.getD i 0 else b.getD (i - a.length) 0 := by
  by_cases h : i < a.length
  · rw [if_pos h, List.getD_eq_getElem?_getD, List.getElem?_append_left h, ← List.getD_eq_getElem?_getD]
  · rw [if_neg h, List.getD_eq_getElem?_getD, List.getElem?_append_right (by omega), ← List.getD_eq_getElem?_getD]
theorem L2 (a b : List UInt8) : (listOf (a.length + b.length) fun i => AV.byte (if i < a.length then .v (.int .u8 ((a.getD i 0).toNat : Nat)) else .v (.int .u8 ((b.getD (i - a.length) 0).toNat : Nat)))) = a ++ b := by
  rw [show (fun i => AV.byte (if i < a.length then .v (.int .u8 ((a.getD i 0).toNat : Nat)) else .v (.int .u8 ((b.getD (i - a.length) 0).toNat : Nat)))) = fun i => (a ++ b).getD i 0 from funext fun i => by
    rw [getD_app]; split <;> exact byteAt _, ← List.length_append]
  exact listOf_getD _ 0
theorem L3 (a b : List UInt8) (i : Nat) : avM (if i < a.length then .v (.int .u8 ((a.getD i 0).toNat : Nat)) else .v (.int .u8 ((b.getD (i - a.length) 0).toNat : Nat))) (.v (.int .u8 (((a ++ b).getD i 0).toNat : Nat))) := by
  rw [getD_app]
  split <;> exact avM_refl _
theorem L4 (a : List UInt8) (i j : Nat) (hi : i < a.length + 1) : avM (if i < a.length then .v (.int .u8 ((a.getD i 0).toNat : Nat)) else Sx.rowAt [fun _ => .v (.int .u8 10)] (i - a.length) j) (.v (.int .u8 (((a ++ [10]).getD i 0).toNat : Nat))) := by
  rw [getD_app]
  split
  · exact avM_refl _
  · rw [show i - a.length = 0 by omega]
    exact avM_refl _
theorem il {n : Int} (h : inK .i64 n) : (Lib.itoa n).length ≤ 21 := by
  simp only [inK] at h
  unfold Lib.itoa
  split
  · rw [List.length_cons, Lib.decDigits_length]
    have := Lib.nDigits_le20 n.natAbs (by omega)
    omega
  · rw [Lib.decDigits_length]
    have := Lib.nDigits_le20 n.toNat (by omega)
    omega
theorem psTx_len {ps at_ : List Int} (h : ∀ j, inK .i64 (ps.getD j 0) ∧ inK .i64 (at_.getD j 0)) : ∀ j, (psTx ps at_ j).length ≤ 44 * j
  | 0 => Nat.le_refl _
  | j + 1 => by
    have h1 := il (h j).1
    have h2 := il (h j).2
    have := psTx_len h j
    simp only [psTx, pairTx, List.length_append, List.length_cons, List.length_nil]
    omega
theorem usedTx_len {l : List Used} (hin : InR l) (h64 : ∀ i, (l.getD i Enc.dflt).ps.length ≤ 64) : ∀ i, (usedTx l i).length ≤ 2838 * i
  | 0 => Nat.le_refl _
  | i + 1 => by
    have h1 := il (hin i).1
    have h2 := psTx_len (hin i).2 (l.getD i Enc.dflt).ps.length
    have h3 := h64 i
    have := usedTx_len hin h64 i
    simp only [usedTx, barTx, List.length_append, List.length_cons, List.length_nil]
    omega
theorem avwE {l : List Used} {s : List UInt8} {e : Int} (h1 : printS l = s) (h2 : printE l = e) :
    AvW (AV.tup [AV.str s, AV.v (Value.int IntKind.i64 e)].length fun i => [AV.str s, AV.v (Value.int IntKind.i64 e)][i]?.getD AV.junk)
      (AV.tup 2 fun i => [AV.str (printS l), AV.v (Value.int IntKind.i64 (printE l))][i]?.getD AV.junk) := by
  subst h1 h2
  exact ⟨avM_refl _⟩
theorem long_of {l : List Used} (h : l.any pLong = false) (i : Nat) : (l.getD i Enc.dflt).ps.length ≤ 64 := by
  by_cases hi : i < l.length
  · have h1 := List.any_eq_false.1 h (l.getD i Enc.dflt) (by rw [List.getD_eq_getElem?_getD, List.getElem?_eq_getElem hi]; exact List.getElem_mem hi)
    have h2 := (ltB_iff 64 ((l.getD i Enc.dflt).ps.length : Int)).2
    unfold pLong at h1
    by_cases h3 : (64 : Int) < ((l.getD i Enc.dflt).ps.length : Int)
    · exact absurd (h2 h3) h1
    · omega
  · rw [List.getD_eq_getElem?_getD, List.getElem?_eq_none (by omega)]
    exact Nat.zero_le _
theorem odd_of {l : List Used} (h : l.any pOdd = false) (i : Nat) : (l.getD i Enc.dflt).at_.length = (l.getD i Enc.dflt).ps.length := by
  by_cases hi : i < l.length
  · have h1 := List.any_eq_false.1 h (l.getD i Enc.dflt) (by rw [List.getD_eq_getElem?_getD, List.getElem?_eq_getElem hi]; exact List.getElem_mem hi)
    simp only [pOdd, bne_iff_ne, ne_eq, Decidable.not_not] at h1
    omega
  · rw [List.getD_eq_getElem?_getD, List.getElem?_eq_none (by omega)]
    rfl
theorem anyU_at {l : List Used} {p : Used → Bool} {i : Nat} (hi : i < l.length) (h : p (l.getD i Enc.dflt) = true) : l.any p = true :=
  List.any_eq_true.2 ⟨_, by rw [List.getD_eq_getElem?_getD, List.getElem?_eq_getElem hi]; exact List.getElem_mem hi, h⟩
theorem none_bad {l : List Used} (h : ∀ i, i < l.length → pBad (l.getD i Enc.dflt) = false) : l.any pBad = false := by
  rw [Bool.eq_false_iff]
  intro hh
  obtain ⟨u, hu, hp⟩ := List.any_eq_true.1 hh
  obtain ⟨i, hi⟩ := List.mem_iff_getElem?.1 hu
  have hlt := (List.getElem?_eq_some_iff.1 hi).1
  have := h i hlt
  rw [List.getD_eq_getElem?_getD, hi, Option.getD_some, hp] at this
  cases this
theorem print_vc (G : List (Nat × Obj)) (l : List Used) (hin : InR l) :
 let q1 := (Array.toList (ByteArray.data (ByteArray.mk #[]))); let q2 := (AV.tup 2 fun (i : Nat) => Option.getD [AV.str (printS l), AV.v (Value.int .i64 (printE l))][i]? AV.junk); let q4 := (ltB (Used.bar (List.getD l 0 Enc.dflt)) (0 : Int)); let q3 := (!bsel false q4 || bsel false q4); let q9 := (List.length (Used.ps (List.getD l 0 Enc.dflt))); let q8 := (AV.xl false 1 q9 fun i j => AV.v (Value.int .i64 (List.getD (Used.ps (List.getD l 0 Enc.dflt)) i Enc.dflt))); let q7 := (rdI q8); let q6 := (bif ltB (Used.bar (List.getD l 0 Enc.dflt)) (0 : Int) then true else List.any q7 pNeg); let q5 :=
 (!bsel false q6 || bsel false q6); let q12 := (List.length (Used.at_ (List.getD l 0 Enc.dflt))); let q11 := (AV.xl false 1 q12 fun i j => AV.v (Value.int .i64 (List.getD (Used.at_ (List.getD l 0 Enc.dflt)) i Enc.dflt))); let q10 := (rdI q11); let q13 := (AvW (AV.tup (List.length [AV.str q1, AV.v (Value.int .i64 (2 : Int))]) fun (i : Nat) => Option.getD [AV.str q1, AV.v (Value.int .i64 (2 : Int))][i]? AV.junk) q2); let q14 := (Lib.itoa (Used.bar (List.getD l 0 Enc.dflt))); let q15 := (listOf (List.length q14) fun (i : Nat) => AV.byte (AV.v (Value.int IntKind.u8 (↑(UInt8.toNat (List.getD q14 (0 +
 i) (0 : UInt8))) : Int)))); let q16 := (AV.xl false 3 (l.length) fun i j => Enc.enc (List.getD l i Enc.dflt) j); let q17 := (AV.fn (Fn.func 54) 0 (fun (x : Nat) => AV.junk) 0 fun (x : Nat) => AV.junk); let q18 := (IntKind.i64 = .i64 ∧ (l.length : Int) = (l.length : Int)); let q19 := (IntKind.i64 = .i64 ∧ (0 : Int) = (0 : Int)); let q21 := (↑q9 : Int); let q20 := (IntKind.i64 = .i64 ∧ q21 = q21); let q22 := ((IntKind.i64 = .i64 ∧ Used.bar (List.getD l 0 Enc.dflt) = Used.bar (List.getD l 0 Enc.dflt)) ∧ avM q8 q8); let q24 := (ByteArray.data (ByteArray.mk #[(32 : UInt8)])); let q25 :=
 (ByteArray.data (ByteArray.mk #[(64 : UInt8)])); let q47 := (AV.xl false 3 (l.length) fun (i j : Nat) => Enc.enc (List.getD l i Enc.dflt) j); let q48 := (AV.xl false (3 : Nat) (List.length l) fun (i j : Nat) => Enc.enc (List.getD l i Enc.dflt) j); let q49 := (IntKind.i64 = IntKind.i64 ∧ (↑(List.length l) : Int) = (↑(List.length l) : Int)); let q54 := ((0 : Nat) = (0 : Nat) ∧ (0 : Nat) = (0 : Nat)); let q60 := (AV.fn (Fn.func (54 : Nat)) (0 : Nat) (fun (x : Nat) => AV.junk) (0 : Nat) fun (x : Nat) => AV.junk); let q61 := (nat_lit 0 = (0 : Nat) ∧ (0 : Nat) = (0 : Nat)); bndL [AV.xl false 3
 (l.length) fun i j => Enc.enc (List.getD l i Enc.dflt) j] → bsplit (!bsel false (ltB (64 : Int) (l.length : Int)) || bsel false (ltB (64 : Int) (l.length : Int))) ((bsel false (ltB (64 : Int) (l.length : Int)) = true → Wk [AV.xl false 3 (l.length) fun i j => Enc.enc (List.getD l i Enc.dflt) j, AV.fn (Fn.func 52) 0 (fun (x : Nat) => AV.junk) 0 fun (x : Nat) => AV.junk] [AV.xl false 3 (l.length) fun i j => Enc.enc (List.getD l i Enc.dflt) j, AV.fn (Fn.func (52 : FuncId)) 0 (fun (x : Nat) => AV.junk) 0 fun (x : Nat) => AV.junk]) ∧ bsplit (!!ltB (64 : Int) (l.length : Int) || bsel false (ltB (64 :
 Int) (l.length : Int))) (bsplit (bif ltB (64 : Int) (l.length : Int) then true else List.any l pLong) (AvW (AV.tup (List.length [AV.str q1, AV.v (Value.int .i64 (4 : Int))]) fun (i : Nat) => Option.getD [AV.str q1, AV.v (Value.int .i64 (4 : Int))][i]? AV.junk) q2) (Wk [AV.xl false 3 (l.length) fun i j => Enc.enc (List.getD l i Enc.dflt) j, AV.fn (Fn.func 53) 0 (fun (x : Nat) => AV.junk) 0 fun (x : Nat) => AV.junk] [AV.xl false 3 (l.length) fun i j => Enc.enc (List.getD l i Enc.dflt) j, AV.fn (Fn.func (53 : FuncId)) 0 (fun (x : Nat) => AV.junk) 0 fun (x : Nat) => AV.junk] ∧ bsplit (List.any l
 pOdd) (AvW (AV.tup (List.length [AV.str q1, AV.v (Value.int .i64 (9 : Int))]) fun (i : Nat) => Option.getD [AV.str q1, AV.v (Value.int .i64 (9 : Int))][i]? AV.junk) q2) (bsplit (ltB (0 : Int) (l.length : Int)) (bsplit (DB.db ((0 : Int) ≤ (0 : Int) ∧ (0 : Int) < (l.length : Int))) (bsplit q3 (bsplit q3 (bsplit q3 ((bsel false q4 = true → 1 = 1 ∧ ∀ (i : Nat), i < List.length (Used.ps (List.getD l 0 Enc.dflt)) → isI64 (AV.v (Value.int .i64 (List.getD (Used.ps (List.getD l 0 Enc.dflt)) i Enc.dflt))) = true) ∧ bsplit (!!ltB (Used.bar (List.getD l 0 Enc.dflt)) (0 : Int) || bsel false q4) (bsplit q5
 (bsplit q5 (bsplit q5 ((bsel false q6 = true → 1 = 1 ∧ ∀ (i : Nat), i < List.length (Used.at_ (List.getD l 0 Enc.dflt)) → isI64 (AV.v (Value.int .i64 (List.getD (Used.at_ (List.getD l 0 Enc.dflt)) i Enc.dflt))) = true) ∧ bsplit ((!!bif ltB (Used.bar (List.getD l 0 Enc.dflt)) (0 : Int) then true else List.any q7 pNeg) || bsel false q6) (bsplit (bif bif ltB (Used.bar (List.getD l 0 Enc.dflt)) (0 : Int) then true else List.any q7 pNeg then true else List.any q10 pNeg) q13 (((-9223372036854775808 : Int) ≤ Used.bar (List.getD l 0 Enc.dflt) ∧ Used.bar (List.getD l 0 Enc.dflt) ≤ (9223372036854775807 :
 Int)) ∧ bsplit (DB.db (List.length q14 * 1 ≤ 140737488355328)) ((∃ (z : PIn), ((PIn.j z ≤ List.length (Used.ps (List.getD l 0 Enc.dflt)) ∧ PIn.tx z = q15 ++ psTx q7 q10 (PIn.j z)) ∧ avM q16 q16 ∧ avM q17 q17 ∧ (nat_lit 0 = 0 ∧ 0 = 0) ∧ (nat_lit 1 = 1 ∧ 0 = 0) ∧ avM q16 q16 ∧ q18 ∧ q19 ∧ avM q8 q8 ∧ q20 ∧ IntKind.i64 = .i64 ∧ (0 : Int) = (↑(PIn.j z) : Int)) ∧ (((90 = 90 ∧ 2 = 2 ∧ (0 = 0 ∧ 0 = 0) ∧ nat_lit 3 = 3 ∧ 0 = 0 ∧ List.length (PIn.tx z) = List.length q14) ∧ 50 = 50 ∧ 3 = 3 ∧ q22 ∧ avM q11 q11) ∧ True) ∧ (5 : TypeId) = 5 ∧ 1 = 1 ∧ List.length (PIn.tx z) = List.length q14 ∧ ∀ (i j : Nat), i
 < List.length q14 → j < 1 → IntKind.u8 = IntKind.u8 ∧ (↑(UInt8.toNat (List.getD q14 i (0 : UInt8))) : Int) = (↑(UInt8.toNat (List.getD (PIn.tx z) i (0 : UInt8))) : Int)) ∧ ∀ (z : PIn), let q23 := (List.getD (Used.ps (List.getD l 0 Enc.dflt)) (Int.toNat (↑(PIn.j z) : Int)) Enc.dflt); let q26 := (List.getD (Used.at_ (List.getD l 0 Enc.dflt)) (Int.toNat (↑(PIn.j z) : Int)) Enc.dflt); let q27 := (Array.toList q24 ++ Lib.itoa q23 ++ Array.toList q25 ++ Lib.itoa q26); PIn.j z ≤ List.length (Used.ps (List.getD l 0 Enc.dflt)) ∧ PIn.tx z = q15 ++ psTx q7 q10 (PIn.j z) → bsplit (ltB (↑(PIn.j z) : Int)
 q21) (bsplit (DB.db ((0 : Int) ≤ (↑(PIn.j z) : Int) ∧ (↑(PIn.j z) : Int) < q21)) (((-9223372036854775808 : Int) ≤ List.getD (Used.ps (List.getD l 0 Enc.dflt)) (Int.toNat (↑(PIn.j z) : Int)) Enc.dflt ∧ List.getD (Used.ps (List.getD l 0 Enc.dflt)) (Int.toNat (↑(PIn.j z) : Int)) Enc.dflt ≤ (9223372036854775807 : Int)) ∧ bsplit (DB.db (1 + List.length (Lib.itoa q23) ≤ 9223372036854775807)) (bsplit (DB.db (List.length (Array.toList q24 ++ Lib.itoa q23) + 1 ≤ 9223372036854775807)) (bsplit (DB.db ((0 : Int) ≤ (↑(PIn.j z) : Int) ∧ (↑(PIn.j z) : Int) < (↑q12 : Int))) (((-9223372036854775808 : Int) ≤
 List.getD (Used.at_ (List.getD l 0 Enc.dflt)) (Int.toNat (↑(PIn.j z) : Int)) Enc.dflt ∧ List.getD (Used.at_ (List.getD l 0 Enc.dflt)) (Int.toNat (↑(PIn.j z) : Int)) Enc.dflt ≤ (9223372036854775807 : Int)) ∧ bsplit (DB.db (List.length (Array.toList q24 ++ Lib.itoa q23 ++ Array.toList q25) + List.length (Lib.itoa q26) ≤ 9223372036854775807)) (bsplit (DB.db ((List.length (PIn.tx z) + List.length q27) * 1 ≤ 140737488355328)) (bsplit (DB.db (inK .i64 ((↑(PIn.j z) : Int) + (1 : Int)))) (∃ (z' : PIn), (((PIn.j z' ≤ List.length (Used.ps (List.getD l 0 Enc.dflt)) ∧ PIn.tx z' = q15 ++ psTx q7 q10 (PIn.j
 z')) ∧ List.length (Used.ps (List.getD l 0 Enc.dflt)) - PIn.j z' < List.length (Used.ps (List.getD l 0 Enc.dflt)) - PIn.j z) ∧ avM q16 q16 ∧ avM q17 q17 ∧ (nat_lit 0 = 0 ∧ 0 = 0) ∧ (nat_lit 1 = 1 ∧ 0 = 0) ∧ avM q16 q16 ∧ q18 ∧ q19 ∧ avM q8 q8 ∧ q20 ∧ IntKind.i64 = IntKind.i64 ∧ (↑(PIn.j z) : Int) + (1 : Int) = (↑(PIn.j z') : Int)) ∧ (((90 = 90 ∧ 2 = 2 ∧ (0 = 0 ∧ 0 = 0) ∧ nat_lit 3 = 3 ∧ 0 = 0 ∧ List.length (PIn.tx z') = List.length (PIn.tx z) + List.length q27) ∧ 50 = 50 ∧ 3 = 3 ∧ q22 ∧ avM q11 q11) ∧ True) ∧ (5 : TypeId) = 5 ∧ 1 = 1 ∧ List.length (PIn.tx z') = List.length (PIn.tx z) +
 List.length q27 ∧ ∀ (i j : Nat), i < List.length (PIn.tx z) + List.length q27 → j < 1 → avM (if i < List.length (PIn.tx z) then AV.v (Value.int IntKind.u8 (↑(UInt8.toNat (List.getD (PIn.tx z) i (0 : UInt8))) : Int)) else AV.v (Value.int IntKind.u8 (↑(UInt8.toNat (List.getD (Array.toList q24 ++ Lib.itoa (List.getD (Used.ps (List.getD l (0 : Nat) Enc.dflt)) (Int.toNat (↑(PIn.j z) : Int)) Enc.dflt) ++ Array.toList q25 ++ Lib.itoa (List.getD (Used.at_ (List.getD l (0 : Nat) Enc.dflt)) (Int.toNat (↑(PIn.j z) : Int)) Enc.dflt)) (i - List.length (PIn.tx z)) (0 : UInt8))) : Int))) (AV.v (Value.int
 IntKind.u8 (↑(UInt8.toNat (List.getD (PIn.tx z') i (0 : UInt8))) : Int)))) False) False) False) False) False) False) False) (bsplit (DB.db ((List.length (PIn.tx z) + 1) * 1 ≤ 140737488355328)) ((∃ (z_1 : Nat), (((1 ≤ z_1 ∧ z_1 ≤ l.length ∧ ∀ (i : Nat), i < z_1 → pBad (List.getD l i Enc.dflt) = false) ∧ l.length - z_1 < l.length + 1) ∧ avM q16 q16 ∧ avM q17 q17 ∧ (nat_lit 0 = 0 ∧ 0 = 0) ∧ avM q16 q16 ∧ q18 ∧ IntKind.i64 = .i64 ∧ (0 : Int) + (1 : Int) = (z_1 : Int)) ∧ (((((90 = 90 ∧ 2 = 2 ∧ (0 = 0 ∧ 0 = 0) ∧ nat_lit 5 = 5 ∧ 0 = 0 ∧ List.length (usedTx l z_1) = List.length (PIn.tx z) + 1) ∧ True)
 ∧ True) ∧ True) ∧ True) ∧ (5 : TypeId) = 5 ∧ 1 = 1 ∧ List.length (usedTx l z_1) = List.length (PIn.tx z) + 1 ∧ ∀ (i j : Nat), i < List.length (PIn.tx z) + 1 → j < 1 → avM (if i < List.length (PIn.tx z) then AV.v (Value.int IntKind.u8 (↑(UInt8.toNat (List.getD (PIn.tx z) i (0 : UInt8))) : Int)) else Sx.rowAt [fun (x : Nat) => AV.v (Value.int IntKind.u8 (10 : Int))] (i - List.length (PIn.tx z)) j) (AV.v (Value.int IntKind.u8 (↑(UInt8.toNat (List.getD (usedTx l z_1) i (0 : UInt8))) : Int)))) ∧ ∀ (z : Nat), let q31 := (List.getD l (Int.toNat (z : Int)) Enc.dflt); let q30 := (Used.bar q31); let q29
 := (ltB q30 (0 : Int)); let q28 := (!bsel false q29 || bsel false q29); let q32 := (Used.ps q31); let q35 := (List.length q32); let q34 := (bif ltB q30 (0 : Int) then true else List.any (rdI (AV.xl false 1 q35 fun i j => AV.v (Value.int .i64 (List.getD q32 i Enc.dflt)))) pNeg); let q33 := (!bsel false q34 || bsel false q34); let q36 := (Used.at_ q31); let q39 := (List.getD l (Int.toNat (↑z : Int)) Enc.dflt); let q38 := (Used.ps q39); let q37 := (rdI (AV.xl false 1 q35 fun i j => AV.v (Value.int IntKind.i64 (List.getD q38 i Enc.dflt)))); let q41 := (Lib.itoa (Used.bar q39)); let q40 := (listOf
 (List.length (usedTx l z) + List.length q41) fun (i : Nat) => AV.byte (if (0 : Nat) + i < List.length (usedTx l z) then AV.v (Value.int IntKind.u8 (↑(UInt8.toNat (List.getD (usedTx l z) ((0 : Nat) + i) (0 : UInt8))) : Int)) else AV.v (Value.int IntKind.u8 (↑(UInt8.toNat (List.getD q41 ((0 : Nat) + i - List.length (usedTx l z)) (0 : UInt8))) : Int)))); let q43 := (List.length q38); let q42 := (rdI (AV.xl false 1 q43 fun (i j : Nat) => AV.v (Value.int IntKind.i64 (List.getD q38 i Enc.dflt)))); let q46 := (Used.at_ q39); let q45 := (List.length q46); let q44 := (rdI (AV.xl false 1 q45 fun (i j :
 Nat) => AV.v (Value.int IntKind.i64 (List.getD q46 i Enc.dflt)))); let q50 := (IntKind.i64 = IntKind.i64 ∧ (↑z : Int) = (↑z : Int)); let q51 := (AV.xl false (1 : Nat) q43 fun (i j : Nat) => AV.v (Value.int IntKind.i64 (List.getD q38 i Enc.dflt))); let q53 := (↑q43 : Int); let q52 := (IntKind.i64 = IntKind.i64 ∧ q53 = q53); let q55 := ((IntKind.i64 = IntKind.i64 ∧ Used.bar q39 = Used.bar q39) ∧ avM q51 q51); let q56 := (AV.xl false (1 : Nat) q45 fun (i j : Nat) => AV.v (Value.int IntKind.i64 (List.getD q46 i Enc.dflt))); (1 ≤ z ∧ z ≤ l.length ∧ ∀ (i : Nat), i < z → pBad (List.getD l i Enc.dflt)
 = false) → bsplit (ltB (z : Int) (l.length : Int)) (bsplit (DB.db ((0 : Int) ≤ (z : Int) ∧ (z : Int) < (l.length : Int))) (bsplit q28 (bsplit q28 (bsplit q28 ((bsel false q29 = true → 1 = 1 ∧ ∀ (i : Nat), i < List.length q32 → isI64 (AV.v (Value.int .i64 (List.getD q32 i Enc.dflt))) = true) ∧ bsplit (!!ltB q30 (0 : Int) || bsel false q29) (bsplit q33 (bsplit q33 (bsplit q33 ((bsel false q34 = true → 1 = 1 ∧ ∀ (i : Nat), i < List.length q36 → isI64 (AV.v (Value.int .i64 (List.getD q36 i Enc.dflt))) = true) ∧ bsplit ((!!bif ltB q30 (0 : Int) then true else List.any q37 pNeg) || bsel false q34)
 (bsplit (bif bif ltB q30 (0 : Int) then true else List.any q37 pNeg then true else List.any (rdI (AV.xl false 1 (List.length q36) fun i j => AV.v (Value.int .i64 (List.getD q36 i Enc.dflt)))) pNeg) q13 (((-9223372036854775808 : Int) ≤ Used.bar q31 ∧ Used.bar q31 ≤ (9223372036854775807 : Int)) ∧ bsplit (DB.db ((List.length (usedTx l z) + List.length (Lib.itoa q30)) * 1 ≤ 140737488355328)) ((∃ (z_1 : PIn), ((PIn.j z_1 ≤ List.length q38 ∧ PIn.tx z_1 = q40 ++ psTx q42 q44 (PIn.j z_1)) ∧ avM q47 q47 ∧ avM q17 q17 ∧ (nat_lit 0 = 0 ∧ 0 = 0) ∧ (nat_lit 6 = (6 : Nat) ∧ 0 = (0 : Nat)) ∧ avM q48 q48 ∧ q49
 ∧ q50 ∧ avM q51 q51 ∧ q52 ∧ IntKind.i64 = IntKind.i64 ∧ (0 : Int) = (↑(PIn.j z_1) : Int)) ∧ (((((((((90 : TypeId) = (90 : TypeId) ∧ (2 : Nat) = (2 : Nat) ∧ q54 ∧ nat_lit 8 = (8 : Nat) ∧ (0 : Nat) = (0 : Nat) ∧ List.length (PIn.tx z_1) = List.length (usedTx l z) + List.length q41) ∧ True) ∧ True) ∧ True) ∧ True) ∧ True) ∧ 50 = 50 ∧ 3 = 3 ∧ q55 ∧ avM q56 q56) ∧ True) ∧ (5 : TypeId) = 5 ∧ 1 = 1 ∧ List.length (PIn.tx z_1) = List.length (usedTx l z) + List.length q41 ∧ ∀ (i j : Nat), i < List.length (usedTx l z) + List.length q41 → j < (1 : Nat) → avM (if i < List.length (usedTx l z) then AV.v
 (Value.int IntKind.u8 (↑(UInt8.toNat (List.getD (usedTx l z) i (0 : UInt8))) : Int)) else AV.v (Value.int IntKind.u8 (↑(UInt8.toNat (List.getD q41 (i - List.length (usedTx l z)) (0 : UInt8))) : Int))) (AV.v (Value.int IntKind.u8 (↑(UInt8.toNat (List.getD (PIn.tx z_1) i (0 : UInt8))) : Int)))) ∧ ∀ (z_1 : PIn), let q57 := (List.getD q38 (Int.toNat (↑(PIn.j z_1) : Int)) Enc.dflt); let q58 := (List.getD q46 (Int.toNat (↑(PIn.j z_1) : Int)) Enc.dflt); let q59 := (Array.toList q24 ++ Lib.itoa q57 ++ Array.toList q25 ++ Lib.itoa q58); PIn.j z_1 ≤ List.length q32 ∧ PIn.tx z_1 = q40 ++ psTx q42 q44
 (PIn.j z_1) → bsplit (ltB (↑(PIn.j z_1) : Int) q53) (bsplit (DB.db ((0 : Int) ≤ (↑(PIn.j z_1) : Int) ∧ (↑(PIn.j z_1) : Int) < q53)) (((-9223372036854775808 : Int) ≤ List.getD q38 (Int.toNat (↑(PIn.j z_1) : Int)) Enc.dflt ∧ List.getD q38 (Int.toNat (↑(PIn.j z_1) : Int)) Enc.dflt ≤ (9223372036854775807 : Int)) ∧ bsplit (DB.db (1 + List.length (Lib.itoa q57) ≤ (9223372036854775807 : Nat))) (bsplit (DB.db (List.length (Array.toList q24 ++ Lib.itoa q57) + (1 : Nat) ≤ (9223372036854775807 : Nat))) (bsplit (DB.db ((0 : Int) ≤ (↑(PIn.j z_1) : Int) ∧ (↑(PIn.j z_1) : Int) < (↑q45 : Int)))
 (((-9223372036854775808 : Int) ≤ List.getD q46 (Int.toNat (↑(PIn.j z_1) : Int)) Enc.dflt ∧ List.getD q46 (Int.toNat (↑(PIn.j z_1) : Int)) Enc.dflt ≤ (9223372036854775807 : Int)) ∧ bsplit (DB.db (List.length (Array.toList q24 ++ Lib.itoa q57 ++ Array.toList q25) + List.length (Lib.itoa q58) ≤ (9223372036854775807 : Nat))) (bsplit (DB.db ((List.length (PIn.tx z_1) + List.length q59) * (1 : Nat) ≤ (140737488355328 : Nat))) (bsplit (DB.db (inK IntKind.i64 ((↑(PIn.j z_1) : Int) + (1 : Int)))) (∃ (z' : PIn), (((PIn.j z' ≤ List.length q38 ∧ PIn.tx z' = q40 ++ psTx (rdI q51) (rdI q56) (PIn.j z')) ∧
 List.length q38 - PIn.j z' < List.length q38 - PIn.j z_1) ∧ avM q48 q48 ∧ avM q60 q60 ∧ q61 ∧ (nat_lit 6 = (6 : Nat) ∧ (0 : Nat) = (0 : Nat)) ∧ avM q48 q48 ∧ q49 ∧ q50 ∧ avM q51 q51 ∧ q52 ∧ IntKind.i64 = IntKind.i64 ∧ (↑(PIn.j z_1) : Int) + (1 : Int) = (↑(PIn.j z') : Int)) ∧ (((((((((90 : TypeId) = (90 : TypeId) ∧ (2 : Nat) = (2 : Nat) ∧ q54 ∧ nat_lit 8 = (8 : Nat) ∧ (0 : Nat) = (0 : Nat) ∧ List.length (PIn.tx z') = List.length (PIn.tx z_1) + List.length q59) ∧ True) ∧ True) ∧ True) ∧ True) ∧ True) ∧ (50 : Nat) = (50 : Nat) ∧ (3 : Nat) = (3 : Nat) ∧ q55 ∧ avM q56 q56) ∧ True) ∧ (5 : TypeId) =
 (5 : Nat) ∧ (1 : Nat) = (1 : Nat) ∧ List.length (PIn.tx z') = List.length (PIn.tx z_1) + List.length q59 ∧ ∀ (i j : Nat), i < List.length (PIn.tx z_1) + List.length q59 → j < (1 : Nat) → avM (if i < List.length (PIn.tx z_1) then AV.v (Value.int IntKind.u8 (↑(UInt8.toNat (List.getD (PIn.tx z_1) i (0 : UInt8))) : Int)) else AV.v (Value.int IntKind.u8 (↑(UInt8.toNat (List.getD q59 (i - List.length (PIn.tx z_1)) (0 : UInt8))) : Int))) (AV.v (Value.int IntKind.u8 (↑(UInt8.toNat (List.getD (PIn.tx z') i (0 : UInt8))) : Int)))) False) False) False) False) False) False) False) (bsplit (DB.db
 ((List.length (PIn.tx z_1) + 1) * 1 ≤ (140737488355328 : Nat))) (bsplit (DB.db (inK .i64 ((z : Int) + (1 : Int)))) (∃ (z' : Nat), (((1 ≤ z' ∧ z' ≤ List.length l ∧ ∀ (i : Nat), i < z' → pBad (List.getD l i Enc.dflt) = false) ∧ List.length l - z' < List.length l - z) ∧ avM q48 q48 ∧ avM q60 q60 ∧ q61 ∧ avM q48 q48 ∧ q49 ∧ IntKind.i64 = IntKind.i64 ∧ (↑z : Int) + (1 : Int) = (↑z' : Int)) ∧ ((((((90 : TypeId) = (90 : TypeId) ∧ (2 : Nat) = (2 : Nat) ∧ q54 ∧ nat_lit 5 = (5 : Nat) ∧ (0 : Nat) = (0 : Nat) ∧ List.length (usedTx l z') = List.length (PIn.tx z_1) + (1 : Nat)) ∧ True) ∧ True) ∧ True) ∧
 True) ∧ (5 : TypeId) = (5 : Nat) ∧ (1 : Nat) = (1 : Nat) ∧ List.length (usedTx l z') = List.length (PIn.tx z_1) + (1 : Nat) ∧ ∀ (i j : Nat), i < List.length (PIn.tx z_1) + (1 : Nat) → j < (1 : Nat) → avM (if i < List.length (PIn.tx z_1) then AV.v (Value.int IntKind.u8 (↑(UInt8.toNat (List.getD (PIn.tx z_1) i (0 : UInt8))) : Int)) else Sx.rowAt [fun (x : Nat) => AV.v (Value.int IntKind.u8 (10 : Int))] (i - List.length (PIn.tx z_1)) j) (AV.v (Value.int IntKind.u8 (↑(UInt8.toNat (List.getD (usedTx l z') i (0 : UInt8))) : Int)))) False) False)) False)) False) False) False) False) False) False)
 False) False) False) (0 < List.length (usedTx l z) ∧ ∃ (l_1 : List UInt8), List.length l_1 = List.length (usedTx l z) ∧ (∀ (i : Nat), i < List.length (usedTx l z) → AV.v (Value.int IntKind.u8 (↑(UInt8.toNat (List.getD (usedTx l z) i (0 : UInt8))) : Int)) = AV.v (Value.int IntKind.u8 (↑(UInt8.toNat (List.getD l_1 i (0 : UInt8))) : Int))) ∧ AvW (AV.tup (List.length [AV.str l_1, AV.v (Value.int .i64 (0 : Int))]) fun (i : Nat) => Option.getD [AV.str l_1, AV.v (Value.int .i64 (0 : Int))][i]? AV.junk) q2)) False)) False)) False) False) False) False) False) False) False) False) False) (AvW (AV.tup
 (List.length [AV.str [], AV.v (Value.int .i64 (0 : Int))]) fun (i : Nat) => Option.getD [AV.str [], AV.v (Value.int .i64 (0 : Int))][i]? AV.junk) q2)))) False) False := by
  dsimp only
  intro hb
  simp only [bsel_true, bsel_false, vc_own, bif_or, bif_and, vc_gdb, vc_db, vc_lt, vc_ne, Int.toNat_natCast, avM_refl, true_and, and_true, rdI_eq, isI64, implies_true, Wk.refl, Nat.zero_add, Nat.mul_one, Nat.sub_zero, gt_iff_lt]
  have hl0 : (ltB 64 (l.length : Int) || l.any pLong) = false → l.length ≤ 64 ∧ l.any pLong = false := fun h => by
    simp only [Bool.or_eq_false_iff] at h
    refine ⟨?_, h.2⟩
    by_cases h3 : (64 : Int) < (l.length : Int)
    · rw [(ltB_iff _ _).2 h3] at h; cases h.1
    · omega
  refine bsplit_iff.2 ⟨fun h => ?_, fun h1 => bsplit_iff.2 ⟨fun h2 => ?_, fun h2 => ?_⟩⟩
  · have e : printE l = 4 := by unfold printE; rw [h]; rfl
    exact avwE (by unfold printS; rw [e]; rfl) e
  · have e : printE l = 9 := by unfold printE; rw [h1, h2]; rfl
    exact avwE (by unfold printS; rw [e]; rfl) e
  obtain ⟨hl64, hlong⟩ := hl0 h1
  have h64 := long_of hlong
  have hodd := odd_of h2
  have bad : ∀ i, i < l.length → pBad (l.getD i Enc.dflt) = true → printE l = 2 ∧ printS l = [] := fun i hi hp => by
    have e : printE l = 2 := by unfold printE; rw [h1, h2, anyU_at hi hp]; rfl
    exact ⟨e, by unfold printS; rw [e]; rfl⟩
  have good : (∀ i, i < l.length → pBad (l.getD i Enc.dflt) = false) → printE l = 0 ∧ printS l = usedTx l l.length := fun hp => by
    have e : printE l = 0 := by unfold printE; rw [h1, h2, none_bad hp]; rfl
    exact ⟨e, by unfold printS; rw [e]; rfl⟩
  have ilb := fun i => il (hin i).1
  have ilp := fun i j => il ((hin i).2 j).1
  have ila := fun i j => il ((hin i).2 j).2
  refine ⟨fun hlen => ⟨⟨by omega, by omega⟩, bsplit_iff.2 ⟨fun h3 => ?_, fun h3 => ?_⟩⟩, fun hlen => ?_⟩
  · obtain ⟨e1, e2⟩ := bad 0 (by omega) h3
    exact avwE e2 e1
  · have b0 := ilb 0
    refine ⟨(hin 0).1, by omega, ⟨⟨0, Lib.itoa (l.getD 0 Enc.dflt).bar⟩, ⟨⟨Nat.zero_le _, by rw [L1]; simp [psTx]⟩, rfl⟩, rfl, rfl, fun i j _ _ => rfl⟩, ?_⟩
    rintro ⟨j, tx⟩ ⟨hj, htx⟩
    simp only at hj htx ⊢
    rw [L1] at htx
    have hps := psTx_len (hin 0).2 j
    have hj64 := h64 0
    have htl : tx.length ≤ 21 + 44 * j := by rw [htx, List.length_append]; omega
    refine ⟨fun hlt => ?_, fun hge => ?_⟩
    · have bp := ilp 0 j
      have ba := ila 0 j
      have ho := hodd 0
      refine ⟨⟨by omega, by omega⟩, ((hin 0).2 j).1, ?_, ?_, ⟨by omega, by omega⟩, ((hin 0).2 j).2, ?_, ?_, by simp only [inK]; omega,
        ⟨j + 1, tx ++ pairTx ((l.getD 0 Enc.dflt).ps.getD j 0) ((l.getD 0 Enc.dflt).at_.getD j 0)⟩, ⟨⟨⟨by simp only; omega, ?_⟩, by simp only; omega⟩, by simp⟩, ?_, ?_, fun i j' _ _ => L3 _ _ i⟩
      · show 1 + (Lib.itoa ((l.getD 0 Enc.dflt).ps.getD j 0)).length ≤ _; omega
      · show ([32] ++ Lib.itoa ((l.getD 0 Enc.dflt).ps.getD j 0)).length + 1 ≤ _
        simp only [List.length_append, List.length_cons, List.length_nil]; omega
      · show ([32] ++ Lib.itoa ((l.getD 0 Enc.dflt).ps.getD j 0) ++ [64]).length + (Lib.itoa ((l.getD 0 Enc.dflt).at_.getD j 0)).length ≤ _
        simp only [List.length_append, List.length_cons, List.length_nil]; omega
      · show tx.length + ([32] ++ Lib.itoa ((l.getD 0 Enc.dflt).ps.getD j 0) ++ [64] ++ Lib.itoa ((l.getD 0 Enc.dflt).at_.getD j 0)).length ≤ _
        simp only [List.length_append, List.length_cons, List.length_nil]; omega
      · rw [L1, htx]; simp only [psTx, List.append_assoc]
      · simp only [List.length_append, pairTx]; rfl
      · simp only [List.length_append, pairTx]; rfl
    · have ej : j = (l.getD 0 Enc.dflt).ps.length := by omega
      have etx : usedTx l 1 = tx ++ [10] := by
        rw [htx, ej]; simp only [usedTx, barTx, List.nil_append]
      refine ⟨by omega, ⟨1, ⟨⟨⟨Nat.le_refl _, by omega, fun i hi => ?_⟩, by omega⟩, rfl⟩, by rw [etx]; simp, by rw [etx]; simp, fun i j hi _ => by rw [etx]; exact L4 _ _ _ hi⟩, ?_⟩
      · obtain rfl : i = 0 := by omega
        exact h3
      rintro z ⟨hz1, hz2, hz3⟩
      have hzl := usedTx_len hin h64 z
      refine ⟨fun hlt => ⟨⟨by omega, by omega⟩, bsplit_iff.2 ⟨fun h4 => ?_, fun h4 => ?_⟩⟩, fun hge => ?_⟩
      · obtain ⟨e1, e2⟩ := bad z (by omega) h4
        exact avwE e2 e1
      · have bz := ilb z
        refine ⟨(hin z).1, by omega, ⟨⟨0, usedTx l z ++ Lib.itoa (l.getD z Enc.dflt).bar⟩, ⟨⟨Nat.zero_le _, by rw [L2]; simp [psTx]⟩, rfl⟩, by simp, by simp, fun i j _ _ => L3 _ _ i⟩, ?_⟩
        rintro ⟨j, tx⟩ ⟨hj, htx⟩
        simp only at hj htx ⊢
        rw [L2] at htx
        have hps := psTx_len (hin z).2 j
        have hj64 := h64 z
        have htl : tx.length ≤ 2838 * z + 21 + 44 * j := by rw [htx, List.length_append, List.length_append]; omega
        refine ⟨fun hlt => ?_, fun hge => ?_⟩
        · have bp := ilp z j
          have ba := ila z j
          have ho := hodd z
          refine ⟨⟨by omega, by omega⟩, ((hin z).2 j).1, ?_, ?_, ⟨by omega, by omega⟩, ((hin z).2 j).2, ?_, ?_, by simp only [inK]; omega,
            ⟨j + 1, tx ++ pairTx ((l.getD z Enc.dflt).ps.getD j 0) ((l.getD z Enc.dflt).at_.getD j 0)⟩, ⟨⟨⟨by simp only; omega, ?_⟩, by simp only; omega⟩, by simp⟩, ?_, ?_, fun i j' _ _ => L3 _ _ i⟩
          · show 1 + (Lib.itoa ((l.getD z Enc.dflt).ps.getD j 0)).length ≤ _; omega
          · show ([32] ++ Lib.itoa ((l.getD z Enc.dflt).ps.getD j 0)).length + 1 ≤ _
            simp only [List.length_append, List.length_cons, List.length_nil]; omega
          · show ([32] ++ Lib.itoa ((l.getD z Enc.dflt).ps.getD j 0) ++ [64]).length + (Lib.itoa ((l.getD z Enc.dflt).at_.getD j 0)).length ≤ _
            simp only [List.length_append, List.length_cons, List.length_nil]; omega
          · show tx.length + ([32] ++ Lib.itoa ((l.getD z Enc.dflt).ps.getD j 0) ++ [64] ++ Lib.itoa ((l.getD z Enc.dflt).at_.getD j 0)).length ≤ _
            simp only [List.length_append, List.length_cons, List.length_nil]; omega
          · rw [L2, htx]; simp only [psTx, List.append_assoc]
          · simp only [List.length_append, pairTx]; rfl
          · simp only [List.length_append, pairTx]; rfl
        · have ej : j = (l.getD z Enc.dflt).ps.length := by omega
          have etx : usedTx l (z + 1) = tx ++ [10] := by
            rw [htx, ej]; simp only [usedTx, barTx, List.append_assoc]
          refine ⟨by omega, by simp only [inK]; omega, z + 1, ⟨⟨⟨by omega, by omega, fun i hi => ?_⟩, by omega⟩, by omega⟩, by rw [etx]; simp, by rw [etx]; simp, fun i j hi _ => by rw [etx]; exact L4 _ _ _ hi⟩
          by_cases e : i = z
          · subst e; exact h4
          · exact hz3 i (by omega)
      · have ez : z = l.length := by omega
        subst ez
        obtain ⟨e1, e2⟩ := good hz3
        refine ⟨?_, usedTx l l.length, rfl, fun i _ => rfl, avwE e2 e1⟩
        obtain ⟨k, hk⟩ : ∃ k, l.length = k + 1 := ⟨l.length - 1, by omega⟩
        rw [hk]
        simp only [usedTx, barTx, List.length_append, List.length_cons, List.length_nil]
        omega
  · have e0 : l.length = 0 := by omega
    obtain ⟨e1, e2⟩ := good fun i hi => by omega
    refine avwE ?_ e1
    rw [e2, e0]; rfl
theorem print_C {G : List (Nat × Obj)} (hG : TabIn G) (l : List Used) (hin : InR l) : PureCall Tryz.prog G 25 [slE l] (.tup 2 (listFn [.str (printS l), .i (printE l)])) :=
  pure_of_vcW mixed (TP_sound hG l) (Eq.mp (by kernel_rfl) (print_vc G l hin) : vcFnW Tryz.prog (TP G l) 25 (print_an l) [slE l] (.tup 2 (listFn [.str (printS l), .i (printE l)])))
end Go.Tz
