/- integer: Add, Sub, Mul, Compare. -/
import Derived.Test.YtdkpceodckdcfaaGreatDoorTeIg
import Derived.Test.YtdkpceodckdcfaaGreatDoorTeJ
import Derived.Test.YtdkpceodckdcfaaGreatDoorArO
set_option linter.unusedSimpArgs false
set_option linter.unusedVariables false
namespace Go.Te
open Go Go.Sx Go.Proofs Go.Ar
set_option maxRecDepth 100000
set_option maxHeartbeats 4000000
theorem lenN {n k : Nat} (h : n < 10 ^ k) : (limbs 1000000000 n).length ≤ k := by
 refine limbs_len_le (b := 1000000000) (by omega) ?_
 have h2 : 10 ^ k ≤ 1000000000 ^ k := Nat.pow_le_pow_left (by omega) _
 exact_mod_cast Nat.lt_of_lt_of_le h h2
theorem big_a {a : Str} (h : intE a = 0) : (valI a).natAbs < 10 ^ 301 ∧ a.length ≤ 301 ∧ intB a = true := by
 obtain ⟨h1, h2⟩ := intE_zero.1 h
 have h3 := lenD_le a
 have h4 : 10 ^ a.length ≤ 10 ^ 301 := pw_le (a := a.length) (b := 301) (by omega)
 exact ⟨Nat.lt_of_lt_of_le (natV h1) h4, by omega, h1⟩
theorem sval_read {a : Str} (h : intB a = true) : sval (minB a) (limbs 1000000000 (valI a).natAbs) = valI a := by
 have hv : valL 1000000000 (limbs 1000000000 (valI a).natAbs) = ((valI a).natAbs : Int) := limbs_val (b := 1000000000) (by omega) _
 unfold sval
 rw [hv]
 rcases intB_cases h with ⟨r, rfl, h1, _, h3⟩ | ⟨h1, h3⟩
 ·rw [show minB (45 :: r) = true from rfl, h3]; simp only [cond_true]; omega
 ·have hm : minB a = false := by
   unfold minB
   rw [beq_eq_false_iff_ne]
   intro e
   have h0 := (digS_iff.1 h1).1
   have := (digS_iff.1 h1).2.1 _ (getD_mem (s := a) (i := 0) h0)
   rw [e] at this
   cases this
  rw [hm, h3]; simp only [cond_false]; omega
theorem sval_not (n : Bool) (l : List Int) : sval (!n) l = - sval n l := by unfold sval; cases n <;> simp
theorem sval_lim (n : Bool) {v : Int} (h : 0 ≤ v) : sval n (limbs 1000000000 v.toNat) = bif n then - v else v := by
 have hv : valL 1000000000 (limbs 1000000000 v.toNat) = (v.toNat : Int) := limbs_val (b := 1000000000) (by omega) _
 unfold sval
 rw [hv, Int.toNat_of_nonneg h]
theorem limN (n : Nat) : InL 1000000000 (limbs 1000000000 n) ∧ trimL (limbs 1000000000 n) = limbs 1000000000 n := ⟨limbs_in (b := 1000000000) (by omega) n, trim_limbs (b := 1000000000) (by omega) n⟩
theorem agD_big' (f : Bool) (l : List Int) : agD (AV.agg 2 fun i => [AV.v (Value.bool f), AV.xl false 1 l.length fun i j => AV.v (Value.int IntKind.i64 (l.getD i 0))][i]?.getD AV.junk) = (⟨f, l⟩ : Big) := agD_big f l
theorem agOk_big' (f : Bool) (l : List Int) : agOk Big (AV.agg 2 fun i => [AV.v (Value.bool f), AV.xl false 1 l.length fun i j => AV.v (Value.int IntKind.i64 (l.getD i 0))][i]?.getD AV.junk) = true := agOk_big f l
theorem agD_neg (f g : Bool) (l : List Int) (Z : Nat → AV) : agD (AV.agg 2 fun i => if i < 1 then AV.v (Value.bool f) else if i < 2 then listFn [AV.v (Value.bool g), AV.xl false 1 l.length fun i j => AV.v (Value.int IntKind.i64 (l.getD i 0))] i else Z i) = (⟨f, l⟩ : Big) := by
 show (⟨f, slD (slE l)⟩ : Big) = _
 rw [slD_slE]
theorem agOk_neg (f g : Bool) (l : List Int) (Z : Nat → AV) : agOk Big (AV.agg 2 fun i => if i < 1 then AV.v (Value.bool f) else if i < 2 then listFn [AV.v (Value.bool g), AV.xl false 1 l.length fun i j => AV.v (Value.int IntKind.i64 (l.getD i 0))] i else Z i) = true := by
 show (slOk Int (slE l)) = true
 rw [slOk_slE]
theorem agD_box (g : Bool) (l : List Int) (Z : Nat → AV) : agD (AV.agg 2 fun i => if i < 2 then listFn [AV.v (Value.bool g), AV.xl false 1 l.length fun i j => AV.v (Value.int IntKind.i64 (l.getD i 0))] i else Z i) = (⟨g, l⟩ : Big) := by
 show (⟨g, slD (slE l)⟩ : Big) = _
 rw [slD_slE]
theorem agOk_box (g : Bool) (l : List Int) (Z : Nat → AV) : agOk Big (AV.agg 2 fun i => if i < 2 then listFn [AV.v (Value.bool g), AV.xl false 1 l.length fun i j => AV.v (Value.int IntKind.i64 (l.getD i 0))] i else Z i) = true := by
 show (slOk Int (slE l)) = true
 rw [slOk_slE]
theorem op_ne {f : Int → Int → Int} {a b : Str} (h : bothE a b ≠ 0) : opS f a b = [] ∧ opE f a b = bothE a b := by
 have e : opE f a b = bothE a b := by unfold opE; rw [bne_iff_ne.2 h]; rfl
 refine ⟨?_, e⟩
 unfold opS
 rw [e, beq_eq_false_iff_ne.2 h]
 rfl
theorem op_eq {f : Int → Int → Int} {a b : Str} (h : bothE a b = 0) : opS f a b = resS (f (valI a) (valI b)) ∧ opE f a b = resE (f (valI a) (valI b)) := by
 have e : opE f a b = resE (f (valI a) (valI b)) := by unfold opE; rw [h]; rfl
 refine ⟨?_, e⟩
 unfold opS resS
 rw [e]
theorem res_small {n : Int} {k : Nat} (h0 : 0 < k) (hk : k ≤ 300) (h : n.natAbs < 10 ^ k) : resS n = Lib.itoa n ∧ resE n = 0 := by
 have h1 := nDg_le h0 h
 have e : resE n = 0 := by
  unfold resE
  rw [show Nat.blt 300 (nDg n) = false from Bool.eq_false_iff.2 fun e => by have := (blt_iff _ _).1 e; omega]
  rfl
 refine ⟨?_, e⟩
 unfold resS
 rw [e]
 rfl
theorem v18 {a : Str} (h : intB a = true) (hl : leB (a.length : Int) 18 = true) : -1000000000000000000 < valI a ∧ valI a < 1000000000000000000 := by
 have := valI_small h (k := 18) (by have := (leB_iff _ _).1 hl; omega)
 rw [show (10 : Int) ^ 18 = 1000000000000000000 from by decide] at this
 exact this
theorem add_ok {a : Str} (ha : intE a = 0) {n : Bool} {k : Nat} {w : Int} (hk : sval n (limbs 1000000000 k) = w) (hn : k < 10 ^ 301) :
  sval (adN ⟨minB a, limbs 1000000000 (valI a).natAbs⟩ ⟨n, limbs 1000000000 k⟩) (limbs 1000000000 (adV ⟨minB a, limbs 1000000000 (valI a).natAbs⟩ ⟨n, limbs 1000000000 k⟩).toNat) = valI a + w ∧
  (limbs 1000000000 (adV ⟨minB a, limbs 1000000000 (valI a).natAbs⟩ ⟨n, limbs 1000000000 k⟩).toNat).length ≤ 302 ∧ 0 ≤ adV ⟨minB a, limbs 1000000000 (valI a).natAbs⟩ ⟨n, limbs 1000000000 k⟩ := by
 obtain ⟨a1, a2, a3⟩ := big_a ha
 obtain ⟨s1, s2⟩ := sval_add (x := ⟨minB a, limbs 1000000000 (valI a).natAbs⟩) (y := ⟨n, limbs 1000000000 k⟩) (limN _).1 (limN _).1 (limN _).2 (limN _).2
 simp only [hk, sval_read a3] at s2
 have hw : w.natAbs = k := by
  have hv : valL 1000000000 (limbs 1000000000 k) = (k : Int) := limbs_val (b := 1000000000) (by omega) _
  unfold sval at hk
  rw [hv] at hk
  cases n <;> simp at hk <;> omega
 rw [sval_lim _ s1, s2]
 refine ⟨rfl, lenN ?_, s1⟩
 generalize adV ⟨minB a, limbs 1000000000 (valI a).natAbs⟩ ⟨n, limbs 1000000000 k⟩ = v at *
 have : v.toNat ≤ (valI a).natAbs + k := by
  cases hx : adN ⟨minB a, limbs 1000000000 (valI a).natAbs⟩ ⟨n, limbs 1000000000 k⟩ <;> rw [hx] at s2 <;> simp at s2 <;> omega
 have h3 : 10 ^ 302 = 10 ^ 301 * 10 := pw_succ 301 302 rfl
 generalize 10 ^ 301 = M at *
 omega
theorem bif_key : ∀ (s t : Bool) (A B : Int), (bif !(s == t) then -(A * B) else A * B) = (bif s then -A else A) * (bif t then -B else B) := by
 intro s t A B
 cases s <;> cases t <;> simp [Int.neg_mul, Int.mul_neg]
theorem valL_nat (n : Nat) : valL 1000000000 (limbs 1000000000 n) = (n : Int) := limbs_val (b := 1000000000) (by omega) _
theorem sval_mul {a b : Str} (ha : intB a = true) (hb : intB b = true) : sval (!(minB a == minB b)) (limbs 1000000000 (((valI a).natAbs : Int) * ((valI b).natAbs : Int)).toNat) = valI a * valI b := by
 have h1 := sval_read ha
 have h2 := sval_read hb
 unfold sval at h1 h2
 rw [valL_nat] at h1 h2
 rw [sval_lim _ (Int.mul_nonneg (by omega) (by omega)), bif_key, h1, h2]
def ccmp_t : List AV → Option (List Cond × AV)
 | [.v (.int .i64 x), .v (.int .i64 y)] => some ([], .i (cmpI x y))
 | _ => none
theorem ccmp_vc (x : Int) (y : Int) :
 let q1 := (kI ∧ iZ = cmpI x y); let q2 := (kI ∧ (-1 : Int) = cmpI x y); let q3 := (kI ∧ iO = cmpI x y); bndL [aI x, aI y] → bsplit (x != x) (bsplit (y != y) q1 q2) (bsplit (y != y) q3 (bsplit (ltB x y) q2 (bsplit (ltB y x) q3 q1))) := by
 delta kI iZ iO aI
 dsimp only
 intro hb
 simp only [sS, dS]
 unfold cmpI
 refine ⟨fun h => absurd rfl h, fun _ => ⟨fun h => absurd rfl h, fun _ => ⟨fun h => ?_, fun h => ⟨fun h2 => ?_, fun h2 => ?_⟩⟩⟩⟩
 ·rw [(ltB_iff _ _).2 h]; rfl
 ·rw [show ltB x y = false from Bool.eq_false_iff.2 fun e => by have := (ltB_iff _ _).1 e; omega, beq_eq_false_iff_ne.2 (by omega)]; rfl
 ·rw [show x = y by omega, show ltB y y = false from Bool.eq_false_iff.2 fun e => by have := (ltB_iff _ _).1 e; omega, beq_self_eq_true]; rfl
theorem ccmp_C (x : Int) (y : Int) : PureCall Tryz.prog [] 131 [.i x, .i y] (.i (cmpI x y)) :=
 pure_of_vc (T := T0.body Tryz.prog [(195, .auto)]) (an := .auto) mixed (TbSound.body mixed tb0_sound _) (Eq.mp (by kernel_rfl) (ccmp_vc x y))
theorem ccmp_T : PureT Tryz.prog [] 131 ccmp_t := by
 intro xs ps r h hp
 unfold ccmp_t at h
 split at h
 ·skip
  rename_i x y
  cases h
  exact weaken (ys := [.i x, .i y]) ⟨avM_refl _, avM_refl _, trivial⟩ (ccmp_C x y)
 ·cases h
noncomputable def Tin0 (G : List (Nat × Obj)) : Tb := (((((TIt G).plus 146 iboth_t).plus 147 ismall_t).plus 150 iread_t).plus 149 iadd_t).plus 148 iresult_t
theorem Tin0_sound {G : List (Nat × Obj)} (hG : TabIn G) : TbSound Tryz.prog (Tin0 G) :=
 TbSound.plus (TbSound.plus (TbSound.plus (TbSound.plus (TbSound.plus (TIt_sound hG) (PureT.mono iboth_T)) (PureT.mono ismall_T)) (PureT.mono iread_T)) (PureT.mono iadd_T)) (iresult_T hG)
noncomputable def Tin (G : List (Nat × Obj)) : Tb := ((((Tin0 G).plus 203 itimes_t).plus 232 idivL_t).plus 206 icom_t).plus 131 ccmp_t
theorem Tin_sound {G : List (Nat × Obj)} (hG : TabIn G) : TbSound Tryz.prog (Tin G) := TbSound.plus (TbSound.plus (TbSound.plus (TbSound.plus (Tin0_sound hG) (PureT.mono itimes_T)) (PureT.mono idivL_T)) (PureT.mono icom_T)) (PureT.mono ccmp_T)
def iAdd_t : List AV → Option (List Cond × AV)
 | [.str a, .str b] => some ([.p (a.length ≤ 4294967280), .p (b.length ≤ 4294967280)], .tup 2 (listFn [.str (opS (· + ·) a b), .i (opE (· + ·) a b)]))
 | _ => none
theorem iAdd_vc (G : List (Nat × Obj)) (a : List UInt8) (b : List UInt8) (hla : a.length ≤ 4294967280) (hlb : b.length ≤ 4294967280) :
 let q2 := (bif leB (lZ a) (18 : Int) && leB (lZ b) (18 : Int) then valI a else iZ); let q1 := (q2 + bif leB (lZ a) (18 : Int) && leB (lZ b) (18 : Int) then valI b else iZ); let q4 := (limbs 1000000000 (Int.natAbs (valI a))); let q3 := (AV.agg 2 fun i => Option.getD [AV.v (Value.bool (minB a)), AV.xl false 1 (lN q4) fun i j => aI (gD q4 i Enc.dflt)][i]? AV.junk); let q6 := (limbs 1000000000 (Int.natAbs (valI b))); let q5 := (AV.agg 2 fun i => Option.getD [AV.v (Value.bool
 (minB b)), AV.xl false 1 (lN q6) fun i j => aI (gD q6 i Enc.dflt)][i]? AV.junk); let q8 := (agD q3); let q7 := (Big.l q8); let q10 := (agD q5); let q9 := (Big.l q10); let q12 := (limbs 1000000000 (Int.toNat (adV q8 q10))); let q11 := (AV.agg 2 fun i => Option.getD [AV.v (Value.bool (adN q8 q10)), AV.xl false 1 (lN q12) fun i j => aI (gD q12 i Enc.dflt)][i]? AV.junk); let q14 := (agD q11); let q13 := (Big.l q14); let q15 := (sval (Big.neg q14) q13); bndL [AV.str a, AV.str b] → lN a ≤ 4294967280 ∧ lN b ≤
 4294967280 ∧ bsplit (bothE a b != iZ) (j2 ∧ (True ∧ Array.toList (ByteArray.data (ByteArray.mk #[])) = opS (fun (x1 x2 : Int) => x1 + x2) a b) ∧ kI ∧ bothE a b = opE (fun (x1 x2 : Int) => x1 + x2) a b) (intB a = true ∧ intB b = true ∧ (18 : Int) = (18 : Int) ∧ bsplit (leB (lZ a) (18 : Int) && leB (lZ b) (18 : Int)) (bsplit (DB.db (inK .i64 q1)) (((iN ≤ q2 + bif leB (lZ a) (18 : Int) && leB (lZ b) (18 : Int) then valI b else iZ) ∧ q1 ≤
 iX) ∧ j2 ∧ (True ∧ Lib.itoa q1 = opS (fun (x1 x2 : Int) => x1 + x2) a b) ∧ kI ∧ iZ = opE (fun (x1 x2 : Int) => x1 + x2) a b) False) (intB a = true ∧ lN a ≤ 100000000 ∧ intB b = true ∧ lN b ≤ 100000000 ∧ bsplit (agOk Big q3) (bsplit (agOk Big q5) ((∀ (x : Int), List.Mem x q7 → iZ ≤ x ∧ x < iB) ∧ (∀ (x : Int), List.Mem x q9 → iZ ≤ x ∧ x < iB) ∧ trimL q7 = Big.l q8 ∧ trimL q9 = Big.l q10 ∧ lN q7 ≤ 1000000000 ∧ lN q9 ≤ 1000000000 ∧ bsplit
 (agOk Big q11) ((∀ (x : Int), List.Mem x q13 → iZ ≤ x ∧ x < iB) ∧ trimL q13 = Big.l q14 ∧ lN q13 ≤ 100000000 ∧ j2 ∧ (True ∧ resS q15 = opS (fun (x1 x2 : Int) => x1 + x2) a b) ∧ kI ∧ resE q15 = opE (fun (x1 x2 : Int) => x1 + x2) a b) False) False) False)) := by
 delta kI j2 lZ lN gD iZ iX iN iB aI
 dsimp only
 intro hb
 have e0 : (Enc.dflt : Int) = 0 := rfl
 simp only [↓vc_db, ↓vc_gdb, row_one]
 simp only [sS, dS, e0, agD_big', agOk_big', agD_big, agOk_big, agD_neg, agOk_neg, agD_box, agOk_box, vc_tt]
 refine ⟨by omega, by omega, fun hE => ⟨rfl, (op_ne hE).1.symm, (op_ne hE).2.symm⟩, fun hE => ?_⟩
 obtain ⟨hA, hB⟩ := bothE_zero hE
 obtain ⟨a1, a2, a3⟩ := big_a hA
 obtain ⟨b1, b2, b3⟩ := big_a hB
 rw [(op_eq hE).1, (op_eq hE).2]
 refine ⟨a3, b3, bsplit_iff.2 ⟨fun c => ?_, fun c => ?_⟩⟩
 ·rw [c]
  rw [Bool.and_eq_true] at c
  have x1 := v18 a3 c.1
  have x2 := v18 b3 c.2
  simp only [cond_true]
  obtain ⟨r1, r2⟩ := res_small (n := valI a + valI b) (k := 20) (by omega) (by omega) (by omega)
  exact ⟨⟨by omega, by omega⟩, ⟨by omega, by omega⟩, rfl, r1.symm, r2.symm⟩
 ·obtain ⟨q1, q2, q3⟩ := add_ok hA (sval_read b3) b1
  rw [q1]
  exact ⟨a3, by omega, b3, by omega, (limN _).1, (limN _).1, (limN _).2, (limN _).2, by have := lenN a1; omega, by have := lenN b1; omega, (limN _).1, (limN _).2, by omega, rfl, rfl, rfl⟩
theorem iAdd_C {G : List (Nat × Obj)} (hG : TabIn G) (a : List UInt8) (b : List UInt8) (hla : a.length ≤ 4294967280) (hlb : b.length ≤ 4294967280) : PureCall Tryz.prog G 100 [.str a, .str b] (.tup 2 (listFn [.str (opS (· + ·) a b), .i (opE (· + ·) a b)])) :=
 pure_of_vc (T := Tin G) (an := .auto) mixed (Tin_sound hG) (Eq.mp (by kernel_rfl) (iAdd_vc G a b hla hlb))
theorem iAdd_T {G : List (Nat × Obj)} (hG : TabIn G) : PureT Tryz.prog G 100 iAdd_t := by
 intro xs ps r h hp
 unfold iAdd_t at h
 split at h
 ·skip
  rename_i a b
  cases h
  obtain ⟨q0, q1, -⟩ := allC hp
  exact weaken (ys := [.str a, .str b]) ⟨avM_refl _, avM_refl _, trivial⟩ (iAdd_C hG a b q0 q1)
 ·cases h
def iSub_t : List AV → Option (List Cond × AV)
 | [.str a, .str b] => some ([.p (a.length ≤ 4294967280), .p (b.length ≤ 4294967280)], .tup 2 (listFn [.str (opS (· - ·) a b), .i (opE (· - ·) a b)]))
 | _ => none
theorem iSub_vc (G : List (Nat × Obj)) (a : List UInt8) (b : List UInt8) (hla : a.length ≤ 4294967280) (hlb : b.length ≤ 4294967280) :
 let q2 := (bif leB (lZ a) (18 : Int) && leB (lZ b) (18 : Int) then valI a else iZ); let q1 := (q2 - bif leB (lZ a) (18 : Int) && leB (lZ b) (18 : Int) then valI b else iZ); let q4 := (limbs 1000000000 (Int.natAbs (valI a))); let q3 := (AV.agg 2 fun i => Option.getD [AV.v (Value.bool (minB a)), AV.xl false 1 (lN q4) fun i j => aI (gD q4 i Enc.dflt)][i]? AV.junk); let q6 := (limbs 1000000000 (Int.natAbs (valI b))); let q7 := (Value.agg #[Value.bool false, Value.slice (Non Addr)
 0 0]); let q5 := (AV.agg 2 fun (i : Nat) => if 0 ≤ 0 + i ∧ 0 + i < 1 then AV.v (Value.bool !minB b) else if 0 ≤ 0 + i ∧ 0 + i < 2 then listFn [AV.v (Value.bool (minB b)), AV.xl false 1 (lN q6) fun i j => aI (gD q6 i Enc.dflt)] (0 + i - 0) else zcell q7 (0 + i)); let q9 := (agD q3); let q8 := (Big.l q9); let q11 := (agD q5); let q10 := (Big.l q11); let q12 := (AV.agg 2 fun i => let q13 := (agD (AV.agg 2 fun (i : Nat) => if 0 ≤ 0 + i ∧ 0 + i < 1 then AV.v (Value.bool !minB b) else if 0 ≤ 0 + i ∧ 0 + i < 2 then listFn [AV.v (Value.bool (minB b)), AV.xl false 1
 (lN q6) fun i j => aI (gD q6 i Enc.dflt)] (0 + i - 0) else zcell q7 (0 + i))); Option.getD [AV.v (Value.bool (adN q9 q13)), AV.xl false 1 (lN (limbs 1000000000 (Int.toNat (adV q9 q13)))) fun i j => AV.v (Value.int .i64 (gD (limbs 1000000000 (Int.toNat (adV q9 (agD (AV.agg 2 fun (i : Nat) => if 0 ≤ 0 + i ∧ 0 + i < 1 then AV.v (Value.bool !minB b) else if 0 ≤ 0 + i ∧ 0 + i < 2 then listFn [AV.v (Value.bool (minB b)), AV.xl false 1 (lN q6) fun i j => aI (gD q6 i Enc.dflt)] (0 + i - 0) else zcell q7 (0 + i)))))) i
 Enc.dflt))][i]? AV.junk); let q15 := (agD q12); let q14 := (Big.l q15); let q16 := (sval (Big.neg q15) q14); bndL [AV.str a, AV.str b] → lN a ≤ 4294967280 ∧ lN b ≤ 4294967280 ∧ bsplit (bothE a b != iZ) (j2 ∧ (True ∧ Array.toList (ByteArray.data (ByteArray.mk #[])) = opS (fun (x1 x2 : Int) => x1 - x2) a b) ∧ kI ∧ bothE a b = opE (fun (x1 x2 : Int) => x1 - x2) a b) (intB a = true ∧ intB b = true ∧ (18 : Int) = (18 : Int) ∧ bsplit (leB (lZ a) (18 : Int) && leB (lZ b) (18 : Int)) (bsplit
 (DB.db (inK .i64 q1)) (((iN ≤ q2 - bif leB (lZ a) (18 : Int) && leB (lZ b) (18 : Int) then valI b else iZ) ∧ q1 ≤ iX) ∧ j2 ∧ (True ∧ Lib.itoa q1 = opS (fun (x1 x2 : Int) => x1 - x2) a b) ∧ kI ∧ iZ = opE (fun (x1 x2 : Int) => x1 - x2) a b) False) (intB b = true ∧ lN b ≤ 100000000 ∧ intB a = true ∧ lN a ≤ 100000000 ∧ bsplit (agOk Big q3) (bsplit (agOk Big q5) ((∀ (x : Int), List.Mem x q8 → iZ ≤ x ∧ x < iB) ∧
 (∀ (x : Int), List.Mem x q10 → iZ ≤ x ∧ x < iB) ∧ trimL q8 = Big.l q9 ∧ trimL q10 = Big.l q11 ∧ lN q8 ≤ 1000000000 ∧ lN q10 ≤ 1000000000 ∧ bsplit (agOk Big q12) ((∀ (x : Int), List.Mem x q14 → iZ ≤ x ∧ x < iB) ∧ trimL q14 = Big.l q15 ∧ lN q14 ≤ 100000000 ∧ j2 ∧ (True ∧ resS q16 = opS (fun (x1 x2 : Int) => x1 - x2) a b) ∧ kI ∧ resE q16 = opE (fun (x1 x2 : Int) => x1 - x2) a b) False) False) False)) := by
 delta kI j2 lZ lN gD iZ iX iN iB aI
 dsimp only
 intro hb
 have e0 : (Enc.dflt : Int) = 0 := rfl
 simp only [↓vc_db, ↓vc_gdb, row_one]
 simp only [sS, dS, e0, agD_big', agOk_big', agD_big, agOk_big, agD_neg, agOk_neg, agD_box, agOk_box, vc_tt]
 refine ⟨by omega, by omega, fun hE => ⟨rfl, (op_ne hE).1.symm, (op_ne hE).2.symm⟩, fun hE => ?_⟩
 obtain ⟨hA, hB⟩ := bothE_zero hE
 obtain ⟨a1, a2, a3⟩ := big_a hA
 obtain ⟨b1, b2, b3⟩ := big_a hB
 rw [(op_eq hE).1, (op_eq hE).2]
 refine ⟨a3, b3, bsplit_iff.2 ⟨fun c => ?_, fun c => ?_⟩⟩
 ·rw [c]
  rw [Bool.and_eq_true] at c
  have x1 := v18 a3 c.1
  have x2 := v18 b3 c.2
  simp only [cond_true]
  obtain ⟨r1, r2⟩ := res_small (n := valI a - valI b) (k := 20) (by omega) (by omega) (by omega)
  exact ⟨⟨by omega, by omega⟩, ⟨by omega, by omega⟩, rfl, r1.symm, r2.symm⟩
 ·have hs : sval (!minB b) (limbs 1000000000 (valI b).natAbs) = - valI b := by rw [sval_not, sval_read b3]
  obtain ⟨q1, q2, q3⟩ := add_ok hA hs b1
  rw [q1]
  exact ⟨b3, by omega, a3, by omega, (limN _).1, (limN _).1, (limN _).2, (limN _).2, by have := lenN a1; omega, by have := lenN b1; omega, (limN _).1, (limN _).2, by omega, rfl, rfl, rfl⟩
theorem iSub_C {G : List (Nat × Obj)} (hG : TabIn G) (a : List UInt8) (b : List UInt8) (hla : a.length ≤ 4294967280) (hlb : b.length ≤ 4294967280) : PureCall Tryz.prog G 142 [.str a, .str b] (.tup 2 (listFn [.str (opS (· - ·) a b), .i (opE (· - ·) a b)])) :=
 pure_of_vc (T := Tin G) (an := .auto) mixed (Tin_sound hG) (Eq.mp (by kernel_rfl) (iSub_vc G a b hla hlb))
theorem iSub_T {G : List (Nat × Obj)} (hG : TabIn G) : PureT Tryz.prog G 142 iSub_t := by
 intro xs ps r h hp
 unfold iSub_t at h
 split at h
 ·skip
  rename_i a b
  cases h
  obtain ⟨q0, q1, -⟩ := allC hp
  exact weaken (ys := [.str a, .str b]) ⟨avM_refl _, avM_refl _, trivial⟩ (iSub_C hG a b q0 q1)
 ·cases h
def iMul_t : List AV → Option (List Cond × AV)
 | [.str a, .str b] => some ([.p (a.length ≤ 4294967280), .p (b.length ≤ 4294967280)], .tup 2 (listFn [.str (opS (· * ·) a b), .i (opE (· * ·) a b)]))
 | _ => none
theorem iMul_vc (G : List (Nat × Obj)) (a : List UInt8) (b : List UInt8) (hla : a.length ≤ 4294967280) (hlb : b.length ≤ 4294967280) :
 let q1 := ((lZ a) + (lZ b)); let q3 := (bif leB (lZ a) (18 : Int) && leB (lZ b) (18 : Int) then valI a else iZ); let q2 := (q3 * bif leB (lZ a) (18 : Int) && leB (lZ b) (18 : Int) then valI b else iZ); let q6 := (limbs 1000000000 (Int.natAbs (valI a))); let q5 := (AV.xl false 1 (lN q6) fun i j => aI (gD q6 i Enc.dflt)); let q8 := (limbs 1000000000 (Int.natAbs (valI b))); let q7 := (AV.xl false 1 (lN q8) fun i j => AV.v (Value.int
 .i64 (gD q8 i Enc.dflt))); let q9 := (intsOf q5); let q10 := (intsOf q7); let q12 := (limbs 1000000000 (Int.toNat (valL iB q9 * valL iB q10))); let q11 := (AV.agg 2 (listFn [AV.v (Value.bool !minB a == minB b), AV.xl false 1 (lN q12) fun i j => aI (gD q12 i Enc.dflt)])); let q14 := (agD q11); let q13 := (Big.l q14); let q15 := (sval (Big.neg q14) q13); let q4 := (intB a = true ∧ lN a ≤ 100000000 ∧ intB b = true ∧ lN b ≤ 100000000 ∧ bsplit (slOk Int q5) (bsplit (slOk Int q7) ((∀ (x : Int), List.Mem x q9 →
 iZ ≤ x ∧ x < iB) ∧ (∀ (x : Int), List.Mem x q10 → iZ ≤ x ∧ x < iB) ∧ lN q9 ≤ 1000000000 ∧ lN q10 ≤ 1000000000 ∧ bsplit (agOk Big q11) ((∀ (x : Int), List.Mem x q13 → iZ ≤ x ∧ x < iB) ∧ trimL q13 = Big.l q14 ∧ lN q13 ≤ 100000000 ∧ j2 ∧ (True ∧ resS q15 = opS (fun (x1 x2 : Int) => x1 * x2) a b) ∧ kI ∧ resE q15 = opE (fun (x1 x2 : Int) => x1 * x2) a b) False) False) False); bndL [AV.str a, AV.str b] → lN a ≤ 4294967280 ∧ lN b ≤ 4294967280
 ∧ bsplit (bothE a b != iZ) (j2 ∧ (True ∧ Array.toList (ByteArray.data (ByteArray.mk #[])) = opS (fun (x1 x2 : Int) => x1 * x2) a b) ∧ kI ∧ bothE a b = opE (fun (x1 x2 : Int) => x1 * x2) a b) (bsplit (DB.db (inK .i64 q1)) (bsplit (leB q1 (18 : Int)) (intB a = true ∧ intB b = true ∧ (18 : Int) = (18 : Int) ∧ bsplit (leB (lZ a) (18 : Int) && leB (lZ b) (18 : Int)) (bsplit (DB.db (inK .i64 q2)) (((iN ≤ q3 * bif leB (lZ a) (18 : Int) && leB (lZ b)
 (18 : Int) then valI b else iZ) ∧ q2 ≤ iX) ∧ j2 ∧ (True ∧ Lib.itoa q2 = opS (fun (x1 x2 : Int) => x1 * x2) a b) ∧ kI ∧ iZ = opE (fun (x1 x2 : Int) => x1 * x2) a b) False) q4) q4) False) := by
 delta kI j2 lZ lN gD iZ iX iN iB aI
 dsimp only
 intro hb
 have e0 : (Enc.dflt : Int) = 0 := rfl
 simp only [↓vc_db, ↓vc_gdb, row_one]
 simp only [sS, dS, e0, agD_big', agOk_big', agD_big, agOk_big, agD_neg, agOk_neg, agD_box, agOk_box, vc_tt]
 simp only [valL_nat]
 refine ⟨by omega, by omega, fun hE => ⟨rfl, (op_ne hE).1.symm, (op_ne hE).2.symm⟩, fun hE => ?_⟩
 obtain ⟨hA, hB⟩ := bothE_zero hE
 obtain ⟨a1, a2, a3⟩ := big_a hA
 obtain ⟨b1, b2, b3⟩ := big_a hB
 rw [(op_eq hE).1, (op_eq hE).2, sval_mul a3 b3]
 have hl : (limbs 1000000000 (((valI a).natAbs : Int) * ((valI b).natAbs : Int)).toNat).length ≤ 602 := by
  refine lenN ?_
  rw [show (((valI a).natAbs : Int) * ((valI b).natAbs : Int)).toNat = (valI a).natAbs * (valI b).natAbs from by rw [← Int.natCast_mul]; rfl, show 10 ^ 602 = 10 ^ 301 * 10 ^ 301 from pw_two 301 602 rfl]
  have hm := Nat.mul_lt_mul'' a1 b1
  exact hm
 have la := lenN a1
 have lb := lenN b1
 refine ⟨⟨by omega, by omega⟩, fun h18 => ⟨a3, b3, bsplit_iff.2 ⟨fun c => ?_, fun c => ?_⟩⟩, fun h18 => ?_⟩
 ·rw [c]
  rw [Bool.and_eq_true] at c
  simp only [cond_true]
  have hm : (valI a * valI b).natAbs < 10 ^ 18 := by
   rw [Int.natAbs_mul]
   have h1 := Nat.mul_lt_mul'' (natV a3) (natV b3)
   rw [← Nat.pow_add] at h1
   exact Nat.lt_of_lt_of_le h1 (Nat.pow_le_pow_right (by omega) (by omega))
  obtain ⟨r1, r2⟩ := res_small (n := valI a * valI b) (k := 18) (by omega) (by omega) hm
  rw [show 10 ^ 18 = 1000000000000000000 from by decide] at hm
  exact ⟨⟨by omega, by omega⟩, ⟨by omega, by omega⟩, rfl, r1.symm, r2.symm⟩
 ·exact ⟨a3, by omega, b3, by omega, (limN _).1, (limN _).1, by omega, by omega, (limN _).1, (limN _).2, by omega, rfl, rfl, rfl⟩
 ·exact ⟨a3, by omega, b3, by omega, (limN _).1, (limN _).1, by omega, by omega, (limN _).1, (limN _).2, by omega, rfl, rfl, rfl⟩
theorem iMul_C {G : List (Nat × Obj)} (hG : TabIn G) (a : List UInt8) (b : List UInt8) (hla : a.length ≤ 4294967280) (hlb : b.length ≤ 4294967280) : PureCall Tryz.prog G 145 [.str a, .str b] (.tup 2 (listFn [.str (opS (· * ·) a b), .i (opE (· * ·) a b)])) :=
 pure_of_vc (T := Tin G) (an := .auto) mixed (Tin_sound hG) (Eq.mp (by kernel_rfl) (iMul_vc G a b hla hlb))
theorem iMul_T {G : List (Nat × Obj)} (hG : TabIn G) : PureT Tryz.prog G 145 iMul_t := by
 intro xs ps r h hp
 unfold iMul_t at h
 split at h
 ·skip
  rename_i a b
  cases h
  obtain ⟨q0, q1, -⟩ := allC hp
  exact weaken (ys := [.str a, .str b]) ⟨avM_refl _, avM_refl _, trivial⟩ (iMul_C hG a b q0 q1)
 ·cases h
def iCmp_t : List AV → Option (List Cond × AV)
 | [.str a, .str b] => some ([.p (a.length ≤ 4294967280), .p (b.length ≤ 4294967280)], .tup 2 (listFn [.i (cmpV a b), .i (bothE a b)]))
 | _ => none
theorem iCmp_vc (G : List (Nat × Obj)) (a : List UInt8) (b : List UInt8) (hla : a.length ≤ 4294967280) (hlb : b.length ≤ 4294967280) :
 let q1 := (True ∧ kI ∧ iZ = cmpV a b); let q3 := (limbs 1000000000 (Int.natAbs (valI a))); let q4 := (Value.agg #[Value.bool false, Value.slice (Non Addr) 0 0]); let q2 := (AV.agg 2 fun (i : Nat) => if 0 ≤ 0 + i ∧ 0 + i < 2 then listFn [AV.v (Value.bool (minB a)), AV.xl false 1 (lN q3) fun i j => aI (gD q3 i Enc.dflt)] (0 + i - 0) else zcell q4 (0 + i)); let q6 := (limbs 1000000000 (Int.natAbs (valI b))); let q5 := (AV.agg 2 fun (i : Nat) => if 0 ≤ 0 + i ∧ 0 + i < 1 then AV.v (Value.bool !minB b) else if 0 ≤ 0 + i ∧ 0 + i < 2 then listFn
 [AV.v (Value.bool (minB b)), AV.xl false 1 (lN q6) fun i j => aI (gD q6 i Enc.dflt)] (0 + i - 0) else zcell q4 (0 + i)); let q8 := (agD q2); let q7 := (Big.l q8); let q10 := (agD q5); let q9 := (Big.l q10); bndL [AV.str a, AV.str b] → lN a ≤ 4294967280 ∧ lN b ≤ 4294967280 ∧ bsplit (bothE a b != iZ) (j2 ∧ q1 ∧ kI ∧ bothE a b = bothE a b) (intB a = true ∧ intB b = true ∧ (18 : Int) = (18 : Int) ∧ bsplit (leB (lZ a) (18 : Int) && leB (lZ b) (18 : Int)) (2
 = lN [AV.junk, AV.junk] ∧ (True ∧ kI ∧ cmpI (bif leB (lZ a) (18 : Int) && leB (lZ b) (18 : Int) then valI a else iZ) (bif leB (lZ a) (18 : Int) && leB (lZ b) (18 : Int) then valI b else iZ) = cmpV a b) ∧ kI ∧ iZ = bothE a b) (intB a = true ∧ lN a ≤ 100000000 ∧ intB b = true ∧ lN b ≤ 100000000 ∧ bsplit (agOk Big q2) (bsplit (agOk Big q5) ((∀ (x : Int), List.Mem x q7 → iZ ≤ x ∧ x < iB) ∧ (∀ (x : Int), List.Mem x q9 → (0 :
 Int) ≤ x ∧ x < iB) ∧ trimL q7 = Big.l q8 ∧ trimL q9 = Big.l q10 ∧ lN q7 ≤ 1000000000 ∧ lN q9 ≤ 1000000000 ∧ bsplit ((lZ (limbs 1000000000 (Int.toNat (adV q8 q10)))) == iZ) (j2 ∧ q1 ∧ kI ∧ iZ = bothE a b) (bsplit (adN q8 q10) (j2 ∧ (True ∧ kI ∧ (-1 : Int) = cmpV a b) ∧ kI ∧ iZ = bothE a b) (j2 ∧ (True ∧ kI ∧ iO = cmpV a b) ∧ kI ∧ iZ =
 bothE a b))) False) False)) := by
 delta kI j2 lZ lN gD iZ iO iB aI
 dsimp only
 intro hb
 have e0 : (Enc.dflt : Int) = 0 := rfl
 simp only [↓vc_db, ↓vc_gdb, row_one]
 simp only [sS, dS, e0, agD_big', agOk_big', agD_big, agOk_big, agD_neg, agOk_neg, agD_box, agOk_box, vc_tt]
 have hV : bothE a b = 0 → cmpV a b = cmpI (valI a) (valI b) := fun h => by unfold cmpV; rw [h]; rfl
 refine ⟨by omega, by omega, fun hE => ⟨rfl, ?_⟩, fun hE => ?_⟩
 ·unfold cmpV; rw [bne_iff_ne.2 hE]; rfl
 obtain ⟨hA, hB⟩ := bothE_zero hE
 obtain ⟨a1, a2, a3⟩ := big_a hA
 obtain ⟨b1, b2, b3⟩ := big_a hB
 rw [hV hE]
 refine ⟨a3, b3, bsplit_iff.2 ⟨fun c => ?_, fun c => ?_⟩⟩
 ·rw [c]
  exact ⟨rfl, rfl, hE.symm⟩
 ·have hs : sval (!minB b) (limbs 1000000000 (valI b).natAbs) = - valI b := by rw [sval_not, sval_read b3]
  obtain ⟨q1, q2, q3⟩ := add_ok hA hs b1
  have la := lenN a1
  have lb := lenN b1
  rw [sval_lim _ q3] at q1
  refine ⟨a3, by omega, b3, by omega, (limN _).1, (limN _).1, (limN _).2, (limN _).2, by omega, by omega, fun h0 => ?_, fun h0 => bsplit_iff.2 ⟨fun hn => ?_, fun hn => ?_⟩⟩
  all_goals
   generalize adV ⟨minB a, limbs 1000000000 (valI a).natAbs⟩ ⟨!minB b, limbs 1000000000 (valI b).natAbs⟩ = v at *
   generalize adN ⟨minB a, limbs 1000000000 (valI a).natAbs⟩ ⟨!minB b, limbs 1000000000 (valI b).natAbs⟩ = n at *
  ·have h1 := limbs_nil (b := 1000000000) (n := v.toNat) (by omega) (by omega)
   have : valI a = valI b := by cases n <;> simp at q1 <;> omega
   unfold cmpI
   rw [this, show ltB (valI b) (valI b) = false from Bool.eq_false_iff.2 fun e => by have := (ltB_iff _ _).1 e; omega, beq_self_eq_true]
   exact ⟨rfl, rfl, hE.symm⟩
  all_goals
   have h1 : v.toNat ≠ 0 := fun e => h0 (by rw [e, limbs_zero]; rfl)
   rw [hn] at q1
   unfold cmpI
  ·rw [cond_true] at q1
   rw [(ltB_iff _ _).2 (show valI a < valI b by omega)]
   exact ⟨rfl, rfl, hE.symm⟩
  ·rw [cond_false] at q1
   rw [show ltB (valI a) (valI b) = false from Bool.eq_false_iff.2 fun e => by have := (ltB_iff _ _).1 e; omega, beq_eq_false_iff_ne.2 (show valI a ≠ valI b by omega)]
   exact ⟨rfl, rfl, hE.symm⟩
theorem iCmp_C {G : List (Nat × Obj)} (hG : TabIn G) (a : List UInt8) (b : List UInt8) (hla : a.length ≤ 4294967280) (hlb : b.length ≤ 4294967280) : PureCall Tryz.prog G 134 [.str a, .str b] (.tup 2 (listFn [.i (cmpV a b), .i (bothE a b)])) :=
 pure_of_vc (T := Tin G) (an := .auto) mixed (Tin_sound hG) (Eq.mp (by kernel_rfl) (iCmp_vc G a b hla hlb))
theorem iCmp_T {G : List (Nat × Obj)} (hG : TabIn G) : PureT Tryz.prog G 134 iCmp_t := by
 intro xs ps r h hp
 unfold iCmp_t at h
 split at h
 ·skip
  rename_i a b
  cases h
  obtain ⟨q0, q1, -⟩ := allC hp
  exact weaken (ys := [.str a, .str b]) ⟨avM_refl _, avM_refl _, trivial⟩ (iCmp_C hG a b q0 q1)
 ·cases h
end Go.Te

namespace Go.Te
open Go Go.Sx Go.Proofs Go.Ar
set_option maxRecDepth 100000
set_option maxHeartbeats 4000000
theorem fd_uni {a b q r : Int} (h : r + b * q = a) (hr : (0 < b ∧ 0 ≤ r ∧ r < b) ∨ (b < 0 ∧ b < r ∧ r ≤ 0)) : Int.fdiv a b = q ∧ Int.fmod a b = r := by
 rcases hr with ⟨h0, h1, h2⟩ | ⟨h0, h1, h2⟩
 ·rw [Int.fdiv_eq_ediv_of_nonneg _ (by omega), Int.fmod_eq_emod_of_nonneg _ (by omega)]
  exact (Int.ediv_emod_unique h0).2 ⟨h, h1, h2⟩
 ·have h3 : (-a) / (-b) = q ∧ (-a) % (-b) = -r := (Int.ediv_emod_unique (by omega)).2 ⟨by rw [Int.neg_mul]; omega, by omega, by omega⟩
  rw [← Int.neg_fdiv_neg, Int.fdiv_eq_ediv_of_nonneg _ (by omega)]
  refine ⟨h3.1, ?_⟩
  have h4 := Int.neg_fmod_neg a b
  rw [Int.fmod_eq_emod_of_nonneg _ (by omega), h3.2] at h4
  omega
theorem fd_small {a b : Int} (hb : b ≠ 0) :
  ((a.tmod b != 0 && !(ltB (a.tmod b) 0 == ltB b 0)) = true → Int.fdiv a b = a.tdiv b - 1 ∧ Int.fmod a b = a.tmod b + b) ∧
  ((a.tmod b != 0 && !(ltB (a.tmod b) 0 == ltB b 0)) = false → Int.fdiv a b = a.tdiv b ∧ Int.fmod a b = a.tmod b) ∧ (a.tmod b).natAbs < b.natAbs ∧ (a.tdiv b).natAbs ≤ a.natAbs := by
 have e := Int.mul_tdiv_add_tmod a b
 have m : (a.tmod b).natAbs < b.natAbs := by rw [Int.natAbs_tmod]; exact Nat.mod_lt _ (by omega)
 refine ⟨fun c => fd_uni ?_ ?_, fun c => fd_uni (by omega) ?_, m, Int.natAbs_tdiv_le_natAbs a b⟩
 ·rw [Int.mul_sub, Int.mul_one]; omega
 all_goals
  generalize a.tmod b = r at *
  rcases Int.lt_or_le b 0 with h1 | h1 <;> rcases Int.lt_or_le r 0 with h2 | h2
  ·rw [(ltB_iff _ _).2 h1, (ltB_iff _ _).2 h2] at c
   simp at c <;> omega
  ·rw [(ltB_iff _ _).2 h1, show ltB r 0 = false from Bool.eq_false_iff.2 fun e => by have := (ltB_iff _ _).1 e; omega] at c
   simp at c <;> omega
  ·rw [(ltB_iff _ _).2 h2, show ltB b 0 = false from Bool.eq_false_iff.2 fun e => by have := (ltB_iff _ _).1 e; omega] at c
   simp at c <;> omega
  ·rw [show ltB b 0 = false from Bool.eq_false_iff.2 fun e => by have := (ltB_iff _ _).1 e; omega, show ltB r 0 = false from Bool.eq_false_iff.2 fun e => by have := (ltB_iff _ _).1 e; omega] at c
   simp at c <;> omega
theorem fd_big (m t : Bool) {A B q r : Int} (hB : 0 < B) (h : r + B * q = bif !(m == t) then -A else A) (h0 : 0 ≤ r) (h1 : r < B) :
  Int.fdiv (bif m then -A else A) (bif t then -B else B) = q ∧ Int.fmod (bif m then -A else A) (bif t then -B else B) = bif t then -r else r := by
 cases t with
 | false =>
  refine fd_uni ?_ (.inl ⟨hB, h0, h1⟩)
  cases m <;> simpa using h
 | true =>
  refine fd_uni ?_ (.inr ⟨by simp; omega, by simp; omega, by simp; omega⟩)
  cases m <;> simp [Int.neg_mul] at h ⊢ <;> omega
theorem sval_nat (n : Bool) (k : Nat) : sval n (limbs 1000000000 k) = bif n then -(k : Int) else k := by unfold sval; rw [valL_nat]
theorem div_ne {a b : Str} (h : divE a b ≠ 0) : divQ a b = [] ∧ divR a b = [] := by
 unfold divQ divR
 rw [beq_eq_false_iff_ne.2 h]
 exact ⟨rfl, rfl⟩
theorem div_eq {a b : Str} (h : divE a b = 0) : divQ a b = Lib.itoa (Int.fdiv (valI a) (valI b)) ∧ divR a b = Lib.itoa (Int.fmod (valI a) (valI b)) := by
 unfold divQ divR
 rw [h]
 exact ⟨rfl, rfl⟩
theorem big_b {a : Str} (h : intE a = 0) : (valI a).natAbs < 10 ^ 300 := by
 obtain ⟨h1, h2⟩ := intE_zero.1 h
 rw [lenD_eq h1] at h2
 exact (nDigits_le_iff (k := 300) (u := (valI a).natAbs) (by omega)).1 h2
theorem val_ne {b : Str} (h : intB b = true) (h0 : b ≠ [48]) : valI b ≠ 0 := fun e => h0 (by
 rw [← itoa_valI h, e]
 have : Lib.itoa ((0 : Nat) : Int) = [48] := by rw [Go.Ar.itoa_nat, decDigits_small (by omega)]; rfl
 exact this)
theorem sval_bif {a : Str} (h : intB a = true) : (bif minB a then -((valI a).natAbs : Int) else ((valI a).natAbs : Int)) = valI a := by
 have := sval_read h
 rw [sval_nat] at this
 exact this
theorem agD_z (l : List Int) : agD (AV.agg 2 (listFn [AV.v ((Value.agg #[Value.bool false, Value.slice none 0 0]).cells.getD 0 undef), AV.xl false 1 l.length fun i j => AV.v (Value.int IntKind.i64 (l.getD i 0))])) = (⟨false, l⟩ : Big) := agD_big false l
theorem agOk_z (l : List Int) : agOk Big (AV.agg 2 (listFn [AV.v ((Value.agg #[Value.bool false, Value.slice none 0 0]).cells.getD 0 undef), AV.xl false 1 l.length fun i j => AV.v (Value.int IntKind.i64 (l.getD i 0))])) = true := agOk_big false l
def iDiv_t : List AV → Option (List Cond × AV)
 | [.str a, .str b] => some ([.p (a.length ≤ 4294967280), .p (b.length ≤ 4294967280)], .tup 3 (listFn [.str (divQ a b), .str (divR a b), .i (divE a b)]))
 | _ => none
theorem iDiv_vc (G : List (Nat × Obj)) (a : List UInt8) (b : List UInt8) (hla : a.length ≤ 4294967280) (hlb : b.length ≤ 4294967280) :
 let q1 := ((True ∧ Array.toList (ByteArray.data (ByteArray.mk #[])) = divQ a b) ∧ Array.toList (ByteArray.data (ByteArray.mk #[])) = divR a b); let q3 := (bif leB (lZ a) (18 : Int) && leB (lZ b) (18 : Int) then valI b else iZ); let q2 := (DB.db (q3 ≠ iZ)); let q5 := (bif leB (lZ a) (18 : Int) && leB (lZ b) (18 : Int) then valI a else iZ); let q4 := (Int.tdiv q5 q3); let q7 := (Int.tmod q5 q3 != iZ); let q6 := (!bsel true q7 || bsel true q7); let q8 := (Int.tmod q5 q3); let q9 := (Int.tdiv q5 q3 -
 iO); let q10 := (Int.tmod q5 q3 + bif leB (lZ a) (18 : Int) && leB (lZ b) (18 : Int) then valI b else iZ); let q12 := (limbs 1000000000 (Int.natAbs (valI a))); let q11 := (AV.xl false 1 (lN q12) fun i j => aI (gD q12 i Enc.dflt)); let q15 := (limbs 1000000000 (Int.natAbs (valI b))); let q14 := (AV.xl false 1 (lN q15) fun i j => aI (gD q15 i Enc.dflt)); let q13 := (slOk Int q14); let q16 := (intsOf q11); let q18 := (intsOf q14); let q17 := (∀ (x : Int), List.Mem x q18 → (0 :
 Int) ≤ x ∧ x < iB); let q19 := (!bsel true !minB a == minB b || bsel true !minB a == minB b); let q22 := (valL iB q16); let q23 := (valL iB q18); let q21 := (limbs 1000000000 (Int.toNat q22 % Int.toNat q23)); let q20 := (lN q21); let q26 := (limbs 1000000000 (Int.toNat q22 / Int.toNat q23)); let q25 := (lN q26); let q24 := (AV.xl false 1 q25 fun i j => aI (gD q26 i Enc.dflt)); let q27 := (intsOf q24); let q28 := (intsOf (AV.xl true 1 1 (Sx.rowAt [fun (x : Nat) => aI iO]))); let
 q29 := (AV.xl false 1 q20 fun i j => aI (gD q21 i Enc.dflt)); let q30 := (intsOf q29); let q32 := (limbs 1000000000 (Int.toNat (valL iB q27 + valL iB q28))); let q31 := (AV.agg 2 (listFn [AV.v (Value.bool !minB a == minB b), AV.xl false 1 (lN q32) fun i j => aI (gD q32 i Enc.dflt)])); let q35 := (agD q31); let q34 := (Big.l q35); let q37 := (limbs 1000000000 (Int.toNat (valL iB q18 - valL iB q30))); let q36 := (AV.agg 2 (listFn [AV.v (Value.bool (minB b)), AV.xl false 1
 (lN q37) fun i j => aI (gD q37 i Enc.dflt)])); let q39 := (agD q36); let q38 := (Big.l q39); let q41 := (sval (Big.neg q35) q34); let q40 := (resE q41 != iZ); let q42 := (sval (Big.neg q39) q38); let q43 := (3 = lN [AV.junk, AV.junk, AV.junk] ∧ q1 ∧ kI ∧ (4 : Int) = divE a b); let q44 := (AV.agg 2 (listFn [AV.v (Value.bool !minB a == minB b), AV.xl false 1 q25 fun i j => aI (gD q26 i Enc.dflt)])); let q46 := (agD q44); let q45 := (Big.l q46); let q47 := (AV.agg 2 (listFn [AV.v (Value.bool (minB b)),
 AV.xl false 1 q20 fun i j => aI (gD q21 i Enc.dflt)])); let q49 := (agD q47); let q48 := (Big.l q49); let q51 := (sval (Big.neg q46) q45); let q50 := (resE q51 != iZ); let q52 := (sval (Big.neg q49) q48); bndL [AV.str a, AV.str b] → lN a ≤ 4294967280 ∧ lN b ≤ 4294967280 ∧ bsplit (bothE a b != iZ) (3 = lN [AV.junk, AV.junk, AV.junk] ∧ q1 ∧ kI ∧ bothE a b = divE a b) (bsplit (b == Array.toList (ByteArray.data (ByteArray.mk #[(48 : UInt8)]))) (3 = lN [AV.junk, AV.junk, AV.junk] ∧ q1 ∧ kI ∧
 (12 : Int) = divE a b) (intB a = true ∧ intB b = true ∧ (18 : Int) = (18 : Int) ∧ bsplit (leB (lZ a) (18 : Int) && leB (lZ b) (18 : Int)) (bsplit q2 (bsplit (DB.db (inK .i64 q4)) (bsplit q2 (bsplit q6 (bsplit q6 (bsplit q6 (bsplit q6 (bsplit (!Int.tmod q5 q3 != iZ || bsel true q7) (bsplit (bif Int.tmod q5 q3 != iZ then !ltB q8 iZ == ltB q3 iZ else false) (bsplit (DB.db (inK .i64 q9)) (bsplit (DB.db (inK .i64 q10)) ((iN ≤ Int.tdiv q5 q3 - iO ∧ Int.tdiv q5 q3 - iO ≤ iX)
 ∧ ((iN ≤ Int.tmod q5 q3 + bif leB (lZ a) (18 : Int) && leB (lZ b) (18 : Int) then valI b else iZ) ∧ q10 ≤ iX) ∧ 3 = lN [AV.junk, AV.junk, AV.junk] ∧ ((True ∧ Lib.itoa q9 = divQ a b) ∧ Lib.itoa q10 = divR a b) ∧ kI ∧ iZ = divE a b) False) False) ((iN ≤ Int.tdiv q5 q3 ∧ Int.tdiv q5 q3 ≤ iX) ∧ (iN ≤ Int.tmod q5 q3 ∧ Int.tmod q5 q3 ≤ iX) ∧ 3 = lN [AV.junk, AV.junk,
 AV.junk] ∧ ((True ∧ Lib.itoa q4 = divQ a b) ∧ Lib.itoa q8 = divR a b) ∧ kI ∧ iZ = divE a b)) False) False) False) False) False) False) False) False) (intB a = true ∧ lN a ≤ 100000000 ∧ intB b = true ∧ lN b ≤ 100000000 ∧ bsplit (slOk Int q11) (bsplit q13 ((∀ (x : Int), List.Mem x q16 → iZ ≤ x ∧ x < iB) ∧ q17 ∧ trimL q16 = intsOf q11 ∧ trimL q18 = intsOf q14 ∧ lN q18 ≠ 0 ∧ lN q16 ≤ 100000000 ∧ lN q18 ≤ 100000000 ∧ bsplit q19 (bsplit q19 (bsplit (!!minB a == minB b || bsel true !minB a == minB b) (bsplit
 (bif !minB a == minB b then ltB iZ (↑q20 : Int) else false) (bsplit (slOk Int q24) ((∀ (x : Int), List.Mem x q27 → iZ ≤ x ∧ x < iB) ∧ (∀ (x : Int), List.Mem x (intsOf (AV.xl true 1 1 (Sx.rowAt [fun (x : Nat) => aI iO]))) → iZ ≤ x ∧ x < iB) ∧ lN q27 ≤ 1000000000 ∧ lN q28 ≤ 1000000000 ∧ bsplit q13 (bsplit (slOk Int q29) (q17 ∧ (∀ (x : Int), List.Mem x q30 → iZ ≤ x ∧ x < iB) ∧ lN q18 ≤ 1000000000 ∧ lN q30 ≤ 1000000000 ∧ valL iB q30 ≤ valL
 iB q18 ∧ bsplit (agOk Big q31) ((∀ (x : Int), let q33 := (limbs 1000000000 (Int.toNat (valL iB q27 + valL iB (intsOf (AV.xl true 1 1 (Sx.rowAt [fun (x : Nat) => aI iO])))))); List.Mem x (Big.l (agD (AV.agg 2 (listFn [AV.v (Value.bool !minB a == minB b), AV.xl false 1 (lN q33) fun i j => aI (gD q33 i Enc.dflt)])))) → iZ ≤ x ∧ x < iB) ∧ trimL q34 = Big.l q35 ∧ lN q34 ≤ 100000000 ∧ bsplit (agOk Big q36) ((∀ (x : Int), List.Mem x q38 → iZ ≤ x ∧ x <
 iB) ∧ trimL q38 = Big.l q39 ∧ lN q38 ≤ 100000000 ∧ bsplit (!bsel false q40 || bsel false q40) (bsplit (!!resE q41 != iZ || bsel false q40) (bsplit (bif resE q41 != iZ then true else resE q42 != iZ) q43 (3 = lN [AV.junk, AV.junk, AV.junk] ∧ ((True ∧ resS q41 = divQ a b) ∧ resS q42 = divR a b) ∧ kI ∧ iZ = divE a b)) False) False) False) False) False) False) False) (bsplit (agOk Big q44) ((∀ (x : Int), List.Mem x q45 → iZ ≤ x ∧ x < iB) ∧ trimL q45 = Big.l q46 ∧ lN q45 ≤ 100000000 ∧ bsplit
 (agOk Big q47) ((∀ (x : Int), List.Mem x q48 → iZ ≤ x ∧ x < iB) ∧ trimL q48 = Big.l q49 ∧ lN q48 ≤ 100000000 ∧ bsplit (!bsel false q50 || bsel false q50) (bsplit (!!resE q51 != iZ || bsel false q50) (bsplit (bif resE q51 != iZ then true else resE q52 != iZ) q43 (3 = lN [AV.junk, AV.junk, AV.junk] ∧ ((True ∧ resS q51 = divQ a b) ∧ resS q52 = divR a b) ∧ kI ∧ iZ = divE a b)) False) False) False) False)) False) False) False) False) False))) := by
 delta kI lZ lN gD iZ iO iX iN iB aI
 dsimp only
 intro hb
 have e0 : (Enc.dflt : Int) = 0 := rfl
 simp only [↓vc_db, ↓vc_gdb, row_one]
 simp only [sS, dS, e0, agD_big', agOk_big', agD_big, agOk_big, agD_neg, agOk_neg, agD_box, agOk_box, vc_tt, int1, valL_nat, val1, agD_z, agOk_z]
 refine ⟨by omega, by omega, fun hE => ?_, fun hE => bsplit_iff.2 ⟨fun c0 => ?_, fun c0 => ?_⟩⟩
 ·have e : divE a b = bothE a b := by unfold divE; rw [bne_iff_ne.2 hE]; rfl
  obtain ⟨d1, d2⟩ := div_ne (a := a) (b := b) (by rw [e]; exact hE)
  exact ⟨rfl, ⟨d1.symm, d2.symm⟩, e.symm⟩
 ·have e : divE a b = 12 := by unfold divE; rw [hE, c0]; rfl
  obtain ⟨d1, d2⟩ := div_ne (a := a) (b := b) (by rw [e]; decide)
  exact ⟨rfl, ⟨d1.symm, d2.symm⟩, e.symm⟩
 have e : divE a b = 0 := by unfold divE; rw [hE, c0]; rfl
 obtain ⟨d1, d2⟩ := div_eq e
 obtain ⟨hA, hB⟩ := bothE_zero hE
 obtain ⟨a1, a2, a3⟩ := big_a hA
 obtain ⟨b1, b2, b3⟩ := big_a hB
 have a4 := big_b hA
 have b4 := big_b hB
 have hv := val_ne b3 (beq_eq_false_iff_ne.1 c0)
 rw [d1, d2, e]
 refine ⟨a3, b3, bsplit_iff.2 ⟨fun c => ?_, fun c => ?_⟩⟩
 ·rw [c]
  rw [Bool.and_eq_true] at c
  have x1 := v18 a3 c.1
  have x2 := v18 b3 c.2
  simp only [cond_true]
  obtain ⟨f1, f2, f3, f4⟩ := fd_small (a := valI a) (b := valI b) hv
  refine ⟨hv, ⟨by omega, by omega⟩, hv, bsplit_iff.2 ⟨fun cc => ?_, fun cc => ?_⟩⟩
  ·obtain ⟨g1, g2⟩ := f1 cc
   rw [g1, g2]
   exact ⟨⟨by omega, by omega⟩, ⟨by omega, by omega⟩, ⟨by omega, by omega⟩, ⟨by omega, by omega⟩, rfl, ⟨rfl, rfl⟩, trivial⟩
  ·obtain ⟨g1, g2⟩ := f2 cc
   rw [g1, g2]
   exact ⟨⟨by omega, by omega⟩, ⟨by omega, by omega⟩, rfl, ⟨rfl, rfl⟩, trivial⟩
 have wa := sval_bif a3
 have wb := sval_bif b3
 have la := lenN a1
 have lb := lenN b1
 have hB0 : 0 < (valI b).natAbs := by omega
 have hdm := Nat.div_add_mod (valI a).natAbs (valI b).natAbs
 have hml := Nat.mod_lt (valI a).natAbs hB0
 have hdl : (valI a).natAbs / (valI b).natAbs ≤ (valI a).natAbs := Nat.div_le_self _ _
 have lb0 : (limbs 1000000000 (valI b).natAbs).length ≠ 0 := fun e => by have := limbs_nil (b := 1000000000) (by omega) e; omega
 have lq := limbs_len_mono (b := 1000000000) (by omega) hdl
 have lr := limbs_len_mono (b := 1000000000) (by omega) (Nat.le_of_lt hml)
 rw [← wa, ← wb]
 rw [show (bif minB a then -((valI a).natAbs : Int) else ((valI a).natAbs : Int)).natAbs = (valI a).natAbs from by rw [wa], show (bif minB b then -((valI b).natAbs : Int) else ((valI b).natAbs : Int)).natAbs = (valI b).natAbs from by rw [wb]]
 clear wa wb e d1 d2 hv a1 b1 c
 generalize hAA : (valI a).natAbs = A at *
 generalize hBB : (valI b).natAbs = B at *
 generalize minB a = m at *
 generalize minB b = t at *
 have hdmI : (B : Int) * ((A / B : Nat) : Int) + ((A % B : Nat) : Int) = (A : Int) := by exact_mod_cast hdm
 generalize A / B = Q at *
 generalize A % B = R at *
 refine ⟨a3, by omega, b3, by omega, (limN _).1, (limN _).1, (limN _).2, (limN _).2, lb0, by omega, by omega, bsplit_iff.2 ⟨fun cc => ?_, fun cc => ?_⟩⟩
 ·rw [Bool.and_eq_true, ltB_iff] at cc
  have hr0 : R ≠ 0 := fun e => by have := cc.2; rw [e, limbs_zero] at this; exact absurd this (by decide)
  have hB2 : 2 * Q ≤ B * Q := Nat.mul_le_mul_right _ (by omega)
  have eq : ((Q : Int) + 1).toNat = Q + 1 := by omega
  have er : ((B : Int) - (R : Int)).toNat = B - R := by omega
  obtain ⟨g1, g2⟩ := fd_big m t (A := A) (B := B) (q := -((Q + 1 : Nat) : Int)) (r := ((B - R : Nat) : Int)) (by omega) (by
   rw [cc.1, cond_true, Int.mul_neg, Int.natCast_add, Int.mul_add]; omega) (by omega) (by omega)
  have lq2 := limbs_len_mono (b := 1000000000) (m := Q + 1) (n := A) (by omega) (by omega)
  have lr2 := limbs_len_mono (b := 1000000000) (m := B - R) (n := B) (by omega) (by omega)
  simp only [eq, er, sval_nat]
  rw [g1, g2, cc.1, cond_true]
  obtain ⟨r1, r2⟩ := res_small (n := -((Q + 1 : Nat) : Int)) (k := 300) (by omega) (by omega) (by rw [Int.natAbs_neg, Int.natAbs_natCast]; omega)
  obtain ⟨r3, r4⟩ := res_small (n := bif t then -((B - R : Nat) : Int) else ((B - R : Nat) : Int)) (k := 300) (by omega) (by omega) (by cases t <;> simp only [cond_true, cond_false, Int.natAbs_neg, Int.natAbs_natCast] <;> omega)
  rw [r1, r2, r3, r4]
  have o1 : InL 1000000000 [1] := .one (by omega) (by omega)
  refine ⟨(limN _).1, o1, by omega, by simp, (limN _).1, (limN _).1, by omega, by omega, by omega, (limN _).1, (limN _).2, by omega, (limN _).1, (limN _).2, by omega, ?_⟩
  exact ⟨rfl, ⟨rfl, rfl⟩, trivial⟩
 ·have hq : Int.fdiv (bif m then -(A : Int) else (A : Int)) (bif t then -(B : Int) else (B : Int)) = (bif !(m == t) then -(Q : Int) else (Q : Int)) ∧
    Int.fmod (bif m then -(A : Int) else (A : Int)) (bif t then -(B : Int) else (B : Int)) = bif t then -(R : Int) else (R : Int) := by
   refine fd_big m t (by omega) ?_ (by omega) (by omega)
   cases hs : !(m == t) with
   | false => simp only [cond_false]; omega
   | true =>
    rw [hs, Bool.true_and] at cc
    have hr0 : R = 0 := by
     refine Decidable.byContradiction fun hn => ?_
     have h1 : (limbs 1000000000 R).length ≠ 0 := fun e => hn (limbs_nil (b := 1000000000) (by omega) e)
     rw [(ltB_iff _ _).2 (by omega)] at cc
     cases cc
    rw [hr0] at hdmI ⊢
    simp only [cond_true, Int.mul_neg]
    omega
  obtain ⟨g1, g2⟩ := hq
  simp only [sval_nat]
  rw [g1, g2]
  obtain ⟨r1, r2⟩ := res_small (n := bif !(m == t) then -(Q : Int) else (Q : Int)) (k := 300) (by omega) (by omega) (by cases !(m == t) <;> simp only [cond_true, cond_false, Int.natAbs_neg, Int.natAbs_natCast] <;> omega)
  obtain ⟨r3, r4⟩ := res_small (n := bif t then -(R : Int) else (R : Int)) (k := 300) (by omega) (by omega) (by cases t <;> simp only [cond_true, cond_false, Int.natAbs_neg, Int.natAbs_natCast] <;> omega)
  rw [r1, r2, r3, r4]
  exact ⟨(limN _).1, (limN _).2, by omega, (limN _).1, (limN _).2, by omega, rfl, ⟨rfl, rfl⟩, trivial⟩
theorem iDiv_C {G : List (Nat × Obj)} (hG : TabIn G) (a : List UInt8) (b : List UInt8) (hla : a.length ≤ 4294967280) (hlb : b.length ≤ 4294967280) : PureCall Tryz.prog G 192 [.str a, .str b] (.tup 3 (listFn [.str (divQ a b), .str (divR a b), .i (divE a b)])) :=
 pure_of_vc (T := Tin G) (an := .auto) mixed (Tin_sound hG) (Eq.mp (by kernel_rfl) (iDiv_vc G a b hla hlb))
theorem iDiv_T {G : List (Nat × Obj)} (hG : TabIn G) : PureT Tryz.prog G 192 iDiv_t := by
 intro xs ps r h hp
 unfold iDiv_t at h
 split at h
 ·skip
  rename_i a b
  cases h
  obtain ⟨q0, q1, -⟩ := allC hp
  exact weaken (ys := [.str a, .str b]) ⟨avM_refl _, avM_refl _, trivial⟩ (iDiv_C hG a b q0 q1)
 ·cases h
structure GiS where
 x : Int
 y : Int
structure GiL where
 x : Nat
 y : Nat
def iGcd_an (a b : Str) : Ann :=
 .two .auto (.two .auto (.two (.two .auto (.two .auto (.two (.two (.one (.loop GiS (fun σ z => [(7, .i z.x), (8, .i z.y)]) (fun σ z => []) 0 (fun σ z => Nat.gcd z.x.natAbs z.y.natAbs = gcdN a b ∧ z.x.natAbs ≤ 1000000000000000000 ∧ z.y.natAbs ≤ 1000000000000000000) (fun σ z => z.y.natAbs) .auto)) .auto) .auto))) (.two .auto (.two (.one (.loop GiL (fun σ z => [(10, slE (limbs 1000000000 z.x)), (11, slE (limbs 1000000000 z.y))]) (fun σ z => []) 0 (fun σ z => Nat.gcd z.x z.y = gcdN a b ∧ (limbs 1000000000 z.x).length ≤ 100000000 ∧ (limbs 1000000000 z.y).length ≤ 100000000) (fun σ z => z.y) .auto)) .auto))))
def iGcd_t : List AV → Option (List Cond × AV)
 | [.str a, .str b] => some ([.p (a.length ≤ 4294967280), .p (b.length ≤ 4294967280)], .tup 2 (listFn [.str (bif bothE a b != 0 then [] else Lib.itoa (gcdN a b : Int)), .i (bothE a b)]))
 | _ => none
theorem iGcd_vc (G : List (Nat × Obj)) (a : List UInt8) (b : List UInt8) (hla : a.length ≤ 4294967280) (hlb : b.length ≤ 4294967280) :
 let q2 := (limbs 1000000000 (Int.natAbs (valI a))); let q3 := (limbs 1000000000 (Int.natAbs (valI b))); bndL [AV.str a, AV.str b] → lN a ≤ 4294967280 ∧ lN b ≤ 4294967280 ∧ bsplit (bothE a b != iZ) (j2 ∧ (True ∧ Array.toList (ByteArray.data (ByteArray.mk #[])) = bif bothE a b != iZ then [] else Lib.itoa (↑(gcdN a b) : Int)) ∧ kI ∧ bothE a b = bothE a b) (intB a = true ∧ intB b = true ∧ (18 : Int) = (18 : Int) ∧ bsplit (leB (lZ a) (18 : Int) && leB (lZ b) (18 : Int)) ((∃ (z : GiS),
 ((Nat.gcd (Int.natAbs (GiS.x z)) (Int.natAbs (GiS.y z)) = gcdN a b ∧ Int.natAbs (GiS.x z) ≤ 1000000000000000000 ∧ Int.natAbs (GiS.y z) ≤ 1000000000000000000) ∧ (kI ∧ (bif leB (lZ a) (18 : Int) && leB (lZ b) (18 : Int) then valI a else iZ) = GiS.x z) ∧ kI ∧ (bif leB (lZ a) (18 : Int) && leB (lZ b) (18 : Int) then valI b else iZ) = GiS.y z) ∧ True) ∧ ∀ (z : GiS), let q1 := (if -GiS.x z > GiS.x z then -GiS.x z else GiS.x z); Nat.gcd (Int.natAbs (GiS.x z)) (Int.natAbs (GiS.y z)) =
 gcdN a b ∧ Int.natAbs (GiS.x z) ≤ 1000000000000000000 ∧ Int.natAbs (GiS.y z) ≤ 1000000000000000000 → bsplit (GiS.y z != iZ) (bsplit (DB.db (GiS.y z ≠ iZ)) (∃ (z' : GiS), (((Nat.gcd (Int.natAbs (GiS.x z')) (Int.natAbs (GiS.y z')) = gcdN a b ∧ Int.natAbs (GiS.x z') ≤ 1000000000000000000 ∧ Int.natAbs (GiS.y z') ≤ 1000000000000000000) ∧ Int.natAbs (GiS.y z') < Int.natAbs (GiS.y z)) ∧ (kI ∧ GiS.y z = GiS.x z') ∧ kI ∧ Int.tmod (GiS.x z) (GiS.y z) = GiS.y z') ∧ True) False) (bsplit (DB.db (inK .i64 (-GiS.x z))) (((iN ≤ if -GiS.x z
 > GiS.x z then -GiS.x z else GiS.x z) ∧ q1 ≤ iX) ∧ j2 ∧ (True ∧ Lib.itoa q1 = bif bothE a b != iZ then [] else Lib.itoa (↑(gcdN a b) : Int)) ∧ kI ∧ iZ = bothE a b) False)) (intB a = true ∧ lN a ≤ 100000000 ∧ intB b = true ∧ lN b ≤ 100000000 ∧ (∃ (z : GiL), ((Nat.gcd (GiL.x z) (GiL.y z) = gcdN a b ∧ lN (limbs 1000000000 (GiL.x z)) ≤ 100000000 ∧ lN (limbs 1000000000 (GiL.y z)) ≤ 100000000) ∧ avM (AV.xl false 1 (lN q2) fun i j => aI (gD q2 i
 Enc.dflt)) (AV.xl false 1 (lN (limbs 1000000000 (GiL.x z))) fun i j => aI (gD (limbs 1000000000 (GiL.x z)) i Enc.dflt)) ∧ (false = true → false = true) ∧ 1 = 1 ∧ lN (limbs 1000000000 (GiL.y z)) = lN q3 ∧ ∀ (i j : Nat), i < lN q3 → j < 1 → kI ∧ gD q3 i Enc.dflt = gD (limbs 1000000000 (GiL.y z)) i Enc.dflt) ∧ True) ∧ ∀ (z : GiL), let q4 := (lN (limbs 1000000000 (GiL.y z))); let q6 := (lN (limbs 1000000000 (GiL.x z))); let q5 := (AV.xl false 1 q6 fun i j => aI (List.getD
 (limbs 1000000000 (GiL.x z)) i Enc.dflt)); let q7 := (AV.xl false 1 q4 fun i j => aI (gD (limbs 1000000000 (GiL.y z)) i Enc.dflt)); let q8 := (intsOf q5); let q9 := (intsOf q7); let q10 := (limbs 1000000000 (Int.toNat (valL iB q8) % Int.toNat (valL iB q9))); let q11 := (AV.agg 2 (listFn [AV.v (Array.getD (Value.cells (Value.agg #[Value.bool false, Value.slice (Non Addr) 0 0])) 0 undef), AV.xl false 1 q6 fun i j => aI (gD (limbs 1000000000 (GiL.x z)) i Enc.dflt)])); let q13 := (agD q11); let q12 := (Big.l q13);
 let q14 := (sval (Big.neg q13) q12); Nat.gcd (GiL.x z) (GiL.y z) = gcdN a b ∧ lN (limbs 1000000000 (GiL.x z)) ≤ 100000000 ∧ lN (limbs 1000000000 (GiL.y z)) ≤ 100000000 → bsplit (ltB iZ (↑q4 : Int)) (bsplit (slOk Int q5) (bsplit (slOk Int q7) ((∀ (x : Int), List.Mem x q8 → iZ ≤ x ∧ x < iB) ∧ (∀ (x : Int), List.Mem x q9 → iZ ≤ x ∧ x < iB) ∧ trimL q8 = intsOf q5 ∧ trimL q9 = intsOf q7 ∧ lN q9 ≠ 0 ∧ lN q8 ≤ 100000000 ∧ lN q9 ≤ 100000000 ∧ ∃ (z' : GiL), (((Nat.gcd (GiL.x z') (GiL.y z') = gcdN a b ∧
 lN (limbs 1000000000 (GiL.x z')) ≤ 100000000 ∧ lN (limbs 1000000000 (GiL.y z')) ≤ 100000000) ∧ GiL.y z' < GiL.y z) ∧ avM q7 (AV.xl false 1 (lN (limbs 1000000000 (GiL.x z'))) fun i j => aI (gD (limbs 1000000000 (GiL.x z')) i Enc.dflt)) ∧ (false = true → false = true) ∧ 1 = 1 ∧ lN (limbs 1000000000 (GiL.y z')) = lN q10 ∧ ∀ (i j : Nat), i < lN q10 → j < 1 → kI ∧ gD q10 i Enc.dflt = gD (limbs 1000000000 (GiL.y z')) i Enc.dflt) ∧ True) False) False) (bsplit (agOk Big q11) ((∀ (x : Int),
 List.Mem x q12 → iZ ≤ x ∧ x < iB) ∧ trimL q12 = Big.l q13 ∧ lN q12 ≤ 100000000 ∧ j2 ∧ (True ∧ resS q14 = bif bothE a b != iZ then [] else Lib.itoa (↑(gcdN a b) : Int)) ∧ kI ∧ resE q14 = bothE a b) False))) := by
 delta kI j2 lZ lN gD iZ iX iN iB aI
 dsimp only
 intro hb
 have e0 : (Enc.dflt : Int) = 0 := rfl
 simp only [↓vc_db, ↓vc_gdb, row_one]
 simp only [sS, dS, e0, agD_big', agOk_big', agD_big, agOk_big, agD_neg, agOk_neg, agD_box, agOk_box, vc_tt, int1, valL_nat, val1, agD_z, agOk_z]
 refine ⟨by omega, by omega, fun hE => ⟨rfl, by rw [bne_iff_ne.2 hE]; rfl⟩, fun hE => ?_⟩
 obtain ⟨hA, hB⟩ := bothE_zero hE
 obtain ⟨a1, a2, a3⟩ := big_a hA
 obtain ⟨b1, b2, b3⟩ := big_a hB
 have la := lenN a1
 have lb := lenN b1
 have gl : gcdN a b ≤ (valI a).natAbs + (valI b).natAbs := by
  unfold gcdN
  by_cases h : (valI a).natAbs = 0
  ·rw [h, Nat.gcd_zero_left]; omega
  ·exact Nat.le_trans (Nat.le_of_dvd (by omega) (Nat.gcd_dvd_left _ _)) (by omega)
 have a4 := big_b hA
 have b4 := big_b hB
 have gl3 : gcdN a b < 10 ^ 300 := by
  unfold gcdN
  by_cases h : (valI a).natAbs = 0
  ·rw [h, Nat.gcd_zero_left]; exact b4
  ·exact Nat.lt_of_le_of_lt (Nat.le_of_dvd (by omega) (Nat.gcd_dvd_left _ _)) a4
 rw [hE]
 simp only [bne_self_eq_false, cond_false]
 refine ⟨a3, b3, bsplit_iff.2 ⟨fun c => ?_, fun c => ?_⟩⟩
 ·rw [c]
  rw [Bool.and_eq_true] at c
  have x1 := v18 a3 c.1
  have x2 := v18 b3 c.2
  simp only [cond_true]
  refine ⟨⟨⟨valI a, valI b⟩, ⟨rfl, by simp only; omega, by simp only; omega⟩, rfl, rfl⟩, fun z ⟨z1, z2, z3⟩ => ⟨fun hy => ⟨hy, ⟨z.y, z.x.tmod z.y⟩, ⟨⟨?_, z3, ?_⟩, ?_⟩, rfl, rfl⟩, fun hy => ?_⟩⟩
  ·rw [Int.natAbs_tmod, ← gcd_step (y := z.y.natAbs) (by omega), z1]
  ·rw [Int.natAbs_tmod]
   have : z.x.natAbs % z.y.natAbs ≤ z.x.natAbs := Nat.mod_le _ _
   omega
  ·rw [Int.natAbs_tmod]
   exact Nat.mod_lt _ (by omega)
  ·rw [hy, Int.natAbs_zero, Nat.gcd_zero_right] at z1
   rw [nat_abs_if, z1]
   rw [z1] at z2
   exact ⟨⟨by omega, by omega⟩, ⟨by omega, by omega⟩, rfl, rfl, trivial⟩
 ·refine ⟨a3, by omega, b3, by omega, ⟨⟨(valI a).natAbs, (valI b).natAbs⟩, ⟨rfl, by simp only; omega, by simp only; omega⟩, avM_refl _, fun h => h, rfl, fun _ _ _ _ => rfl⟩, fun z ⟨z1, z2, z3⟩ => ⟨fun hy => ?_, fun hy => ?_⟩⟩
  ·have hy0 : z.y ≠ 0 := fun e => by rw [e, limbs_zero] at hy; exact absurd hy (by decide)
   have hm : z.x % z.y < z.y := Nat.mod_lt _ (by omega)
   have hlen := limbs_len_mono (b := 1000000000) (m := z.x % z.y) (n := z.y) (by omega) (by omega)
   exact ⟨(limN _).1, (limN _).1, (limN _).2, (limN _).2, by omega, z2, z3, ⟨z.y, z.x % z.y⟩, ⟨⟨by rw [← gcd_step hy0]; exact z1, z3, by simp only; omega⟩, hm⟩, avM_refl _, fun h => h, rfl, fun _ _ _ _ => rfl⟩
  ·have hy0 := limbs_nil (b := 1000000000) (n := z.y) (by omega) (by omega)
   rw [hy0, Nat.gcd_zero_right] at z1
   rw [sval_nat, cond_false, z1]
   rw [z1] at z2
   obtain ⟨r1, r2⟩ := res_small (n := (gcdN a b : Int)) (k := 300) (by omega) (by omega) (by rw [Int.natAbs_natCast]; exact gl3)
   rw [r1, r2]
   exact ⟨(limN _).1, (limN _).2, z2, rfl, rfl, rfl⟩
theorem iGcd_C {G : List (Nat × Obj)} (hG : TabIn G) (a : List UInt8) (b : List UInt8) (hla : a.length ≤ 4294967280) (hlb : b.length ≤ 4294967280) : PureCall Tryz.prog G 191 [.str a, .str b] (.tup 2 (listFn [.str (bif bothE a b != 0 then [] else Lib.itoa (gcdN a b : Int)), .i (bothE a b)])) :=
 pure_of_vc (T := Tin G) (an := iGcd_an a b) mixed (Tin_sound hG) (Eq.mp (by kernel_rfl) (iGcd_vc G a b hla hlb))
theorem iGcd_T {G : List (Nat × Obj)} (hG : TabIn G) : PureT Tryz.prog G 191 iGcd_t := by
 intro xs ps r h hp
 unfold iGcd_t at h
 split at h
 ·skip
  rename_i a b
  cases h
  obtain ⟨q0, q1, -⟩ := allC hp
  exact weaken (ys := [.str a, .str b]) ⟨avM_refl _, avM_refl _, trivial⟩ (iGcd_C hG a b q0 q1)
 ·cases h
end Go.Te

namespace Go.Te
open Go Go.Sx Go.Proofs Go.Ar Go.Lib
set_option maxRecDepth 100000
set_option maxHeartbeats 4000000
def r2digits_an (s : Str) : Ann :=
 .two .auto (.two .auto (.two (.two .auto (.one (.loop Nat (fun σ z => [(0, σ.tm 0), (3, .i z)]) (fun σ z => []) 0 (fun σ z => z ≤ s.length ∧ ∀ i, i < z → isDg (s.getD i 0) = true) (fun σ z => s.length - z) .auto))) .auto))
def r2digits_t : List AV → Option (List Cond × AV)
 | [.str s] => some ([.p (s.length ≤ 4294967280)], .b (digS s))
 | _ => none
theorem r2digits_vc (s : List UInt8) (hl : s.length ≤ 4294967280) :
 let q1 := (!bsel false ((lZ s) == iZ) || bsel false ((lZ s) == iZ)); let q4 := (ltB iO (lZ s)); let q3 := (bsel false ((lZ s) == iZ) && bsel true q4); let q2 := (!q3 || bsel false ((lZ s) == iZ) && bsel true q4); bndL [AV.str s] → bsplit q1 (bsplit q1 (bsplit q1 (bsplit q2 (bsplit (!q3 || DB.db (iZ ≤ iZ ∧ iZ < (lZ s))) (bsplit q2 (bsplit q1 (bsplit (!bsel false ((lZ s) == iZ) || (!ltB iO (↑(List.length
 s) : Int) || bsel false ((lZ s) == iZ) && bsel true q4)) (bsplit (!!(lZ s) == iZ || bsel false ((lZ s) == iZ)) (bsplit (bif (lZ s) == iZ then true else bif ltB iO (lZ s) then (↑(UInt8.toNat (gD s 0 (0 : UInt8))) : Int) == (48 : Int) else false) (false = digS s) ((∃ (z : Nat), ((z ≤ lN s ∧ ∀ (i : Nat), i < z → isDg (gD s i (0 : UInt8)) = true) ∧ s = s ∧ kI ∧ iZ = (↑z : Int)) ∧ True) ∧ ∀ (z : Nat), let q5 := (iZ ≤ (↑z :
 Int) ∧ (↑z : Int) < (lZ s)); let q8 := (↑(UInt8.toNat (gD s (Int.toNat (↑z : Int)) (0 : UInt8))) : Int); let q7 := (ltB q8 (48 : Int)); let q6 := (!bsel false q7 || bsel false q7); (z ≤ lN s ∧ ∀ (i : Nat), i < z → isDg (gD s i (0 : UInt8)) = true) → bsplit (ltB (↑z : Int) (lZ s)) (bsplit (DB.db q5) (bsplit q6 (bsplit q6 (bsplit (!bsel false q7 || DB.db q5) (bsplit q6 (bsplit (!!ltB q8 (48 : Int) || bsel false q7) (bsplit (bif ltB q8 (48 : Int) then true else ltB (57 : Int) q8) (false = digS s) (bsplit (DB.db (inK .i64 ((↑z : Int) + (1 :
 Int)))) (∃ (z' : Nat), (((z' ≤ lN s ∧ ∀ (i : Nat), i < z' → isDg (gD s i (0 : UInt8)) = true) ∧ lN s - z' < lN s - z) ∧ s = s ∧ kI ∧ (↑z : Int) + iO = (↑z' : Int)) ∧ True) False)) False) False) False) False) False) False) (true = digS s))) False) False) False) False) False) False) False) False) False := by
 delta kI lZ lN gD iZ iO
 dsimp only
 intro hb
 simp only [sS, dS, ltB_nat, dgc]
 have e48 : (((s.getD 0 0).toNat : Int) == 48) = (s.getD 0 0 == 48) := byte_eq (s.getD 0 0) 48 (by decide)
 rw [e48]
 refine ⟨fun h => ⟨Int.le_refl _, ?_⟩, ?_⟩
 ·rw [Bool.and_eq_true, ltB_iff] at h; omega
 by_cases h0 : s.length = 0
 ·have he : s = [] := List.eq_nil_of_length_eq_zero h0
  subst he
  exact rfl
 rw [show ((s.length : Int) == 0) = false from beq_eq_false_iff_ne.2 (by omega)]
 simp only [Bool.not_false, Bool.not_true, Bool.false_or, Bool.true_and]
 rw [show (!ltB 1 (s.length : Int) || ltB 1 (s.length : Int)) = true by cases ltB 1 (s.length : Int) <;> rfl, vc_tt]
 refine bsplit_iff.2 ⟨fun c => ?_, fun c => ⟨⟨0, ⟨Nat.zero_le _, fun i hi => absurd hi (Nat.not_lt_zero _)⟩, rfl⟩, fun z ⟨z1, z2⟩ => ⟨fun hz => ⟨⟨by omega, hz⟩, fun _ => ⟨by omega, hz⟩, bsplit_iff.2 ⟨fun c2 => ?_, fun c2 => ⟨⟨by omega, by omega⟩, z + 1, ⟨⟨by omega, fun i hi => ?_⟩, by omega⟩, by omega⟩⟩⟩, fun hz => ?_⟩⟩⟩
 ·rw [Bool.and_eq_true, ltB_iff, beq_iff_eq] at c
  refine (Bool.eq_false_iff.2 fun e => (digS_at.1 e).2.2 (by omega) c.2).symm
 ·rw [Bool.not_eq_true'] at c2
  refine (Bool.eq_false_iff.2 fun e => ?_).symm
  have := (digS_at.1 e).2.1 z (by omega)
  rw [c2] at this; cases this
 ·rw [Bool.not_eq_false'] at c2
  by_cases e : i = z
  ·rw [e]; exact c2
  ·exact z2 i (by omega)
 ·refine (digS_at.2 ⟨by omega, fun i hi => z2 i (by omega), fun h1 h2 => ?_⟩).symm
  rw [Bool.and_eq_false_iff, beq_eq_false_iff_ne, Bool.eq_false_iff, Ne, ltB_iff] at c
  rcases c with c | c
  ·omega
  ·exact c h2
theorem r2digits_C (s : List UInt8) (hl : s.length ≤ 4294967280) : PureCall Tryz.prog [] 46 [.str s] (.b (digS s)) :=
 pure_of_vc (T := T0) (an := r2digits_an s) mixed tb0_sound (Eq.mp (by kernel_rfl) (r2digits_vc s hl))
theorem r2digits_T : PureT Tryz.prog [] 46 r2digits_t := by
 intro xs ps r h hp
 unfold r2digits_t at h
 split at h
 ·skip
  rename_i s
  cases h
  obtain ⟨q0, -⟩ := allC hp
  exact weaken (ys := [.str s]) ⟨avM_refl _, trivial⟩ (r2digits_C s q0)
 ·cases h
def r2split_an (a : Str) : Ann :=
 .two .auto (.two .auto (.two .auto (.two .auto (.two (.two .auto (.one (.loop Nat (fun σ z => [(6, σ.tm 6), (7, σ.tm 7), (8, .i z)]) (fun σ z => []) 0 (fun σ z => z ≤ (ownS a).length ∧ ∀ i, i < z → (ownS a).getD i 0 ≠ 47) (fun σ z => (ownS a).length - z) .auto))) .auto))))
def r2split_t : List AV → Option (List Cond × AV)
 | [.str a] => some ([.p (a.length ≤ 4294967280)], .tup 4 (listFn [.b (minB a), .str (cutN (ownS a)), .str (cutD (ownS a)), .b (slashB (ownS a))]))
 | _ => none
theorem r2split_vc (a : List UInt8) (hl : a.length ≤ 4294967280) :
 let q2 := (ltB iZ (lZ a)); let q1 := (!bsel true q2 || bsel true q2); let q4 := (↑(UInt8.toNat (gD a 0 (0 : UInt8))) : Int); let q3 := (bif ltB iZ (lZ a) then q4 == (45 : Int) else false); let q5 := (q3 = bif ltB iZ (lZ a) then q4 == (45 : Int) else false); let q7 := (True ∧ q3 = minB a); bndL [AV.str a] → bsplit q1 (bsplit (!bsel true q2 || DB.db (iZ ≤ iZ ∧ iZ < (lZ a))) (bsplit q1 (bsplit (!ltB iZ (lZ a) || bsel true q2) (bsplit q3 (bsplit (DB.db
 (iZ ≤ iO ∧ iO ≤ (lZ a))) ((∃ (z : Nat), ((z ≤ lN (ownS a) ∧ ∀ (i : Nat), i < z → gD (ownS a) i (0 : UInt8) ≠ (47 : UInt8)) ∧ List.drop 1 a = List.drop 1 a ∧ q5 ∧ kI ∧ iZ = (↑z : Int)) ∧ True) ∧ ∀ (z : Nat), let q6 := (DB.db (inK .i64 ((↑z : Int) + iO))); (z ≤ lN (ownS a) ∧ ∀ (i : Nat), i < z → gD (ownS a) i (0 : UInt8) ≠ (47 : UInt8)) → bsplit (ltB (↑z : Int) (lZ (List.drop 1 a))) (bsplit (DB.db (iZ ≤ (↑z : Int) ∧ (↑z : Int) < (lZ (List.drop 1 a))))
 (bsplit ((↑(UInt8.toNat (gD (List.drop 1 a) (Int.toNat (↑z : Int)) (0 : UInt8))) : Int) == (47 : Int)) (bsplit (DB.db (iZ ≤ (↑z : Int) ∧ (↑z : Int) ≤ (lZ (List.drop 1 a)))) (bsplit q6 (bsplit (DB.db (iZ ≤ (↑z : Int) + iO ∧ (↑z : Int) + iO ≤ (lZ (List.drop 1 a)))) (4 = lN [AV.junk, AV.junk, AV.junk, AV.junk] ∧ ((q7 ∧ List.take (Int.toNat (↑z : Int)) (List.drop 1 a) = cutN (ownS a)) ∧ List.drop (Int.toNat ((↑z : Int) + iO)) (List.drop 1 a) = cutD (ownS a)) ∧ true = slashB (ownS a)) False) False) False) (bsplit
 q6 (∃ (z' : Nat), (((z' ≤ lN (ownS a) ∧ ∀ (i : Nat), i < z' → gD (ownS a) i (0 : UInt8) ≠ (47 : UInt8)) ∧ lN (ownS a) - z' < lN (ownS a) - z) ∧ List.drop 1 a = List.drop 1 a ∧ q5 ∧ kI ∧ (↑z : Int) + iO = (↑z' : Int)) ∧ True) False)) False) (4 = lN [AV.junk, AV.junk, AV.junk, AV.junk] ∧ ((q7 ∧ List.drop 1 a = cutN (ownS a)) ∧ Array.toList (ByteArray.data (ByteArray.mk #[])) = cutD (ownS a)) ∧ false = slashB (ownS a))) False) ((∃ (z : Nat), ((z ≤ lN (ownS a) ∧ ∀ (i : Nat), i < z → gD (ownS a) i (0 : UInt8) ≠ (47 :
 UInt8)) ∧ a = a ∧ q5 ∧ kI ∧ iZ = (↑z : Int)) ∧ True) ∧ ∀ (z : Nat), let q8 := (DB.db (inK .i64 ((↑z : Int) + iO))); (z ≤ lN (ownS a) ∧ ∀ (i : Nat), i < z → gD (ownS a) i (0 : UInt8) ≠ (47 : UInt8)) → bsplit (ltB (↑z : Int) (lZ a)) (bsplit (DB.db (iZ ≤ (↑z : Int) ∧ (↑z : Int) < (lZ a))) (bsplit ((↑(UInt8.toNat (gD a (Int.toNat (↑z : Int)) (0 : UInt8))) : Int) == (47 : Int)) (bsplit (DB.db (iZ ≤ (↑z : Int) ∧ (↑z : Int) ≤ (lZ a))) (bsplit q8 (bsplit (DB.db (iZ ≤ (↑z :
 Int) + iO ∧ (↑z : Int) + iO ≤ (lZ a))) (4 = lN [AV.junk, AV.junk, AV.junk, AV.junk] ∧ ((q7 ∧ List.take (Int.toNat (↑z : Int)) a = cutN (ownS a)) ∧ List.drop (Int.toNat ((↑z : Int) + iO)) a = cutD (ownS a)) ∧ true = slashB (ownS a)) False) False) False) (bsplit q8 (∃ (z' : Nat), (((z' ≤ lN (ownS a) ∧ ∀ (i : Nat), i < z' → gD (ownS a) i (0 : UInt8) ≠ (47 : UInt8)) ∧ lN (ownS a) - z' < lN (ownS a) - z) ∧ a = a ∧ q5 ∧ kI ∧ (↑z : Int) + iO = (↑z' : Int)) ∧ True) False)) False) (4 = List.length
 [AV.junk, AV.junk, AV.junk, AV.junk] ∧ ((q7 ∧ a = cutN (ownS a)) ∧ Array.toList (ByteArray.data (ByteArray.mk #[])) = cutD (ownS a)) ∧ false = slashB (ownS a)))) False) False) False) False := by
 delta kI lZ lN gD iZ iO
 dsimp only
 intro hb
 simp only [sS, dS, ltB_nat]
 have em : (Nat.blt 0 a.length && ((a.getD 0 0).toNat : Int) == 45) = minB a := by
  rw [show (((a.getD 0 0).toNat : Int) == 45) = (a.getD 0 0 == 45) from byte_eq (a.getD 0 0) 45 (by decide)]
  unfold minB
  match a with
  | [] => rfl
  | c :: r => simp
 have e47 : ∀ (t : Str) (z : Nat), (((t.getD z 0).toNat : Int) = 47) ↔ t.getD z 0 = 47 := fun t z => by
  have := byte_eq (t.getD z 0) 47 (by decide)
  rw [Bool.eq_iff_iff, beq_iff_eq, beq_iff_eq] at this
  exact this
 have et : ∀ z : Nat, ((z : Int) + 1).toNat = z + 1 := fun z => by omega
 rw [em]
 simp only [e47, et, ne_eq]
 have hol := ownS_len a
 have key : ∀ t : Str, t = ownS a → ((∃ z : Nat, (z ≤ (ownS a).length ∧ ∀ i : Nat, i < z → (ownS a).getD i 0 ≠ 47) ∧ (0 : Int) = z) ∧
   ∀ z : Nat, (z ≤ (ownS a).length ∧ ∀ i : Nat, i < z → (ownS a).getD i 0 ≠ 47) →
    ((z : Int) < (t.length : Int) → (0 ≤ (z : Int) ∧ (z : Int) < (t.length : Int)) ∧
     (t.getD z 0 = 47 → (0 ≤ (z : Int) ∧ (z : Int) ≤ (t.length : Int)) ∧ inK .i64 ((z : Int) + 1) ∧ (0 ≤ (z : Int) + 1 ∧ (z : Int) + 1 ≤ (t.length : Int)) ∧
      4 = [AV.v (Value.bool (minB a)), AV.str (t.take z), AV.str (t.drop (z + 1)), AV.v (Value.bool true)].length ∧
       ((True ∧ t.take z = cutN (ownS a)) ∧ t.drop (z + 1) = cutD (ownS a)) ∧ true = slashB (ownS a)) ∧
     (t.getD z 0 ≠ 47 → inK .i64 ((z : Int) + 1) ∧ ∃ z' : Nat, ((z' ≤ (ownS a).length ∧ ∀ i : Nat, i < z' → (ownS a).getD i 0 ≠ 47) ∧ (ownS a).length - z' < (ownS a).length - z) ∧ (z : Int) + 1 = z')) ∧
    ((t.length : Int) ≤ (z : Int) → 4 = [AV.v (Value.bool (minB a)), AV.str t, AV.str [], AV.v (Value.bool false)].length ∧ ((True ∧ t = cutN (ownS a)) ∧ [] = cutD (ownS a)) ∧ false = slashB (ownS a))) := by
  intro t ht
  rw [← ht] at hol ⊢
  refine ⟨⟨0, ⟨Nat.zero_le _, fun i hi => absurd hi (Nat.not_lt_zero _)⟩, rfl⟩, fun z ⟨z1, z2⟩ => ⟨fun hz => ⟨⟨by omega, hz⟩, fun h => ?_, fun h => ⟨⟨by omega, by omega⟩, z + 1, ⟨⟨by omega, fun i hi => ?_⟩, by omega⟩, by omega⟩⟩, fun hz => ?_⟩⟩
  ·obtain ⟨c1, c2, c3⟩ := cut_at (s := t) (z := z) (by omega) z2 h
   exact ⟨⟨by omega, by omega⟩, ⟨by omega, by omega⟩, ⟨by omega, by omega⟩, rfl, ⟨⟨trivial, c1.symm⟩, c2.symm⟩, c3.symm⟩
  ·by_cases e : i = z
   ·rw [e]; exact h
   ·exact z2 i (by omega)
  ·obtain ⟨c1, c2, c3⟩ := cut_no (s := t) fun i hi => z2 i (by omega)
   exact ⟨rfl, ⟨⟨trivial, c2.symm⟩, c3.symm⟩, c1.symm⟩
 refine ⟨fun h => ⟨Int.le_refl _, by have := (blt_iff _ _).1 h; omega⟩, bsplit_iff.2 ⟨fun c => ⟨⟨by omega, ?_⟩, key (a.drop 1) (by unfold ownS; rw [c]; rfl)⟩, fun c => key a (by unfold ownS; rw [c]; rfl)⟩⟩
 rcases own_cases a with ⟨_, h2⟩ | ⟨h1, _⟩
 ·rw [h2]; simp only [List.length_cons]; omega
 ·rw [c] at h1; cases h1
theorem r2split_C (a : List UInt8) (hl : a.length ≤ 4294967280) : PureCall Tryz.prog [] 45 [.str a] (.tup 4 (listFn [.b (minB a), .str (cutN (ownS a)), .str (cutD (ownS a)), .b (slashB (ownS a))])) :=
 pure_of_vc (T := T0) (an := r2split_an a) mixed tb0_sound (Eq.mp (by kernel_rfl) (r2split_vc a hl))
theorem r2split_T : PureT Tryz.prog [] 45 r2split_t := by
 intro xs ps r h hp
 unfold r2split_t at h
 split at h
 ·skip
  rename_i a
  cases h
  obtain ⟨q0, -⟩ := allC hp
  exact weaken (ys := [.str a]) ⟨avM_refl _, trivial⟩ (r2split_C a q0)
 ·cases h
def r2small_an (s : Str) : Ann :=
 .two .auto (.two .auto (.two (.two .auto (.one (.loop Nat (fun σ z => [(0, σ.tm 0), (3, .i (decV (s.take z) : Int)), (4, .i z)]) (fun σ z => []) 0 (fun σ z => z ≤ s.length) (fun σ z => s.length - z) .auto))) .auto))
def r2small_t : List AV → Option (List Cond × AV)
 | [.str s] => some ([.p (digS s = true), .p (s.length ≤ 18)], .i (decV s : Int))
 | _ => none
theorem r2small_vc (s : List UInt8) (hd : digS s = true) (hl : s.length ≤ 18) :
 bndL [AV.str s] → (∃ (z : Nat), (z ≤ lN s ∧ s = s ∧ (kI ∧ iZ = (↑(decV (List.take z s)) : Int)) ∧ kI ∧ iZ = (↑z : Int)) ∧ True) ∧ ∀ (z : Nat), let q1 := ((↑(UInt8.toNat (gD s (Int.toNat (↑z : Int)) (0 : UInt8))) : Int) - (48 : Int)); z ≤ lN s → bsplit (ltB (↑z : Int) (lZ s)) (bsplit (DB.db (inK .i64 ((10 : Int) * (↑(decV (List.take z s)) : Int)))) (bsplit (DB.db (iZ ≤ (↑z : Int) ∧ (↑z : Int) < (lZ s))) (bsplit (DB.db (inK IntKind.u8 q1)) (bsplit (DB.db (inK .i64 q1)) (bsplit (DB.db
 (inK .i64 ((10 : Int) * (↑(decV (List.take z s)) : Int) + q1))) (bsplit (DB.db (inK .i64 ((↑z : Int) + iO))) (∃ (z' : Nat), ((z' ≤ lN s ∧ lN s - z' < lN s - z) ∧ s = s ∧ (kI ∧ (10 : Int) * (↑(decV (List.take z s)) : Int) + q1 = (↑(decV (List.take z' s)) : Int)) ∧ kI ∧ (↑z : Int) + iO = (↑z' : Int)) ∧ True) False) False) False) False) False) False) (kI ∧ (↑(decV (List.take z s)) : Int) = (↑(decV s) : Int)) := by
 delta kI lZ lN gD iZ iO
 dsimp only
 intro hb
 simp only [sS, dS, ltB_nat]
 have hall := (digS_iff.1 hd).2.1
 refine ⟨⟨0, Nat.zero_le _, rfl, rfl⟩, fun z hz => ⟨fun hlt => ?_, fun hge => ?_⟩⟩
 ·have hc := isDg_iff.1 (hall _ (getD_mem (s := s) (i := z) (by omega)))
  have hst : (decV (s.take (z + 1)) : Int) = 10 * (decV (s.take z) : Int) + (((s.getD z 0).toNat : Int) - 48) := by
   rw [take_snocS (by omega), decV_snoc]
   unfold dgV
   omega
  have b1 : decV (s.take (z + 1)) < 10 ^ 18 := by
   have h1 := decV_lt (l := s.take (z + 1)) (List.all_eq_true.2 fun c hc => hall c (List.mem_of_mem_take hc))
   exact Nat.lt_of_lt_of_le h1 (Nat.pow_le_pow_right (by omega) (by rw [List.length_take]; omega))
  exact ⟨⟨by omega, by omega⟩, ⟨by omega, hlt⟩, ⟨by omega, by omega⟩, ⟨by omega, by omega⟩, ⟨by omega, by omega⟩, ⟨by omega, by omega⟩, z + 1, ⟨by omega, by omega⟩, hst.symm, by omega⟩
 ·rw [show z = s.length by omega, List.take_length]
theorem r2small_C (s : List UInt8) (hd : digS s = true) (hl : s.length ≤ 18) : PureCall Tryz.prog [] 48 [.str s] (.i (decV s : Int)) :=
 pure_of_vc (T := T0) (an := r2small_an s) mixed tb0_sound (Eq.mp (by kernel_rfl) (r2small_vc s hd hl))
theorem r2small_T : PureT Tryz.prog [] 48 r2small_t := by
 intro xs ps r h hp
 unfold r2small_t at h
 split at h
 ·skip
  rename_i s
  cases h
  obtain ⟨q0, q1, -⟩ := allC hp
  exact weaken (ys := [.str s]) ⟨avM_refl _, trivial⟩ (r2small_C s q0 q1)
 ·cases h
structure GcP where
 x : Int
 y : Int
def r2gcd_an (x y : Int) : Ann :=
 .two .auto (.two (.one (.loop GcP (fun σ z => [(0, .i z.x), (1, .i z.y)]) (fun σ z => []) 0 (fun σ z => 0 ≤ z.x ∧ 0 ≤ z.y ∧ z.x ≤ 9223372036854775807 ∧ z.y ≤ 9223372036854775807 ∧ Nat.gcd z.x.toNat z.y.toNat = Nat.gcd x.toNat y.toNat) (fun σ z => z.y.toNat) .auto)) .auto)
def r2gcd_t : List AV → Option (List Cond × AV)
 | [.v (.int .i64 x), .v (.int .i64 y)] => some ([.p (0 ≤ x ∧ x ≤ 9223372036854775807), .p (0 ≤ y ∧ y ≤ 9223372036854775807)], .i (Nat.gcd x.toNat y.toNat : Int))
 | _ => none
theorem r2gcd_vc (x : Int) (y : Int) (h1 : 0 ≤ x ∧ x ≤ 9223372036854775807) (h2 : 0 ≤ y ∧ y ≤ 9223372036854775807) :
 bndL [aI x, aI y] → (∃ (z : GcP), ((iZ ≤ GcP.x z ∧ iZ ≤ GcP.y z ∧ GcP.x z ≤ iX ∧ GcP.y z ≤ iX ∧ Nat.gcd (Int.toNat (GcP.x z)) (Int.toNat (GcP.y z)) = Nat.gcd (Int.toNat x) (Int.toNat y)) ∧ (kI ∧ x = GcP.x z) ∧ kI ∧ y = GcP.y z) ∧ True) ∧ ∀ (z : GcP), iZ ≤ GcP.x z ∧ iZ ≤ GcP.y z ∧ GcP.x z ≤ iX ∧ GcP.y z ≤ iX ∧ Nat.gcd (Int.toNat (GcP.x z)) (Int.toNat (GcP.y z)) = Nat.gcd (Int.toNat x) (Int.toNat y) →
 bsplit (GcP.y z != iZ) (bsplit (DB.db (GcP.y z ≠ iZ)) (∃ (z' : GcP), (((iZ ≤ GcP.x z' ∧ iZ ≤ GcP.y z' ∧ GcP.x z' ≤ iX ∧ GcP.y z' ≤ iX ∧ Nat.gcd (Int.toNat (GcP.x z')) (Int.toNat (GcP.y z')) = Nat.gcd (Int.toNat x) (Int.toNat y)) ∧ Int.toNat (GcP.y z') < Int.toNat (GcP.y z)) ∧ (kI ∧ GcP.y z = GcP.x z') ∧ kI ∧ Int.tmod (GcP.x z) (GcP.y z) = GcP.y z') ∧ True) False) (kI ∧ GcP.x z = (↑(Nat.gcd (Int.toNat x) (Int.toNat y)) : Int)) := by
 delta kI iZ iX aI
 intro hb
 simp only [sS, dS]
 refine ⟨⟨⟨x, y⟩, ⟨h1.1, h2.1, h1.2, h2.2, rfl⟩, rfl, rfl⟩, fun z ⟨z1, z2, z3, z4, z5⟩ => ⟨fun hy => ?_, fun hy => ?_⟩⟩
 ·generalize z.x = zx at *
  generalize z.y = zy at *
  obtain ⟨X, rfl⟩ : ∃ X : Nat, zx = X := ⟨zx.toNat, by omega⟩
  obtain ⟨Y, rfl⟩ : ∃ Y : Nat, zy = Y := ⟨zy.toNat, by omega⟩
  have tm : (X : Int).tmod (Y : Int) = ((X % Y : Nat) : Int) := by rw [Int.tmod_eq_emod_of_nonneg (by omega)]; omega
  have hm : X % Y < Y := Nat.mod_lt _ (by omega)
  refine ⟨hy, ⟨Y, ((X % Y : Nat) : Int)⟩, ⟨⟨by simp only; omega, by simp only; omega, by simp only; omega, by simp only; omega, ?_⟩, by simp only; omega⟩, rfl, tm⟩
  simp only [Int.toNat_natCast] at z5 ⊢
  rw [← gcd_step (by omega)]; exact z5
 ·rw [hy] at z5
  simp only [Int.toNat_zero, Nat.gcd_zero_right] at z5
  omega
theorem r2gcd_C (x : Int) (y : Int) (h1 : 0 ≤ x ∧ x ≤ 9223372036854775807) (h2 : 0 ≤ y ∧ y ≤ 9223372036854775807) : PureCall Tryz.prog [] 47 [.i x, .i y] (.i (Nat.gcd x.toNat y.toNat : Int)) :=
 pure_of_vc (T := T0) (an := r2gcd_an x y) mixed tb0_sound (Eq.mp (by kernel_rfl) (r2gcd_vc x y h1 h2))
theorem r2gcd_T : PureT Tryz.prog [] 47 r2gcd_t := by
 intro xs ps r h hp
 unfold r2gcd_t at h
 split at h
 ·skip
  rename_i x y
  cases h
  obtain ⟨q0, q1, -⟩ := allC hp
  exact weaken (ys := [.i x, .i y]) ⟨avM_refl _, avM_refl _, trivial⟩ (r2gcd_C x y q0 q1)
 ·cases h
end Go.Te

namespace Go.Te
open Go Go.Sx Go.Proofs Go.Ar
set_option maxRecDepth 100000
set_option maxHeartbeats 4000000
def twD (s : Str) : Str := s.takeWhile isDg
def natOk (s : Str) : Bool := digS (twD s) && leB ((twD s).length : Int) 8
def natN (s : Str) : Int := bif natOk s then (decV (twD s) : Int) else 0
def natR (s : Str) : Str := bif natOk s then s.drop (twD s).length else []
theorem tw_app {a b : Str} (h : ∀ c ∈ a, isDg c = true) : twD (a ++ b) = a ++ twD b := by
 unfold twD
 exact List.takeWhile_append_of_pos h
theorem take_dg {s : Str} {z : Nat} (h1 : z ≤ s.length) (h2 : ∀ i, i < z → isDg (s.getD i 0) = true) : ∀ c ∈ s.take z, isDg c = true := fun c hc => by
 obtain ⟨i, hi, e⟩ := mem_getD hc
 rw [List.length_take] at hi
 rw [← e, getD_takeS (by omega)]
 exact h2 i (by omega)
theorem tw_take {s : Str} {z : Nat} (h1 : z ≤ s.length) (h2 : ∀ i, i < z → isDg (s.getD i 0) = true) (h3 : z = s.length ∨ isDg (s.getD z 0) = false) : twD s = s.take z := by
 conv => lhs; rw [← List.take_append_drop z s]
 rw [tw_app (take_dg h1 h2)]
 have : twD (s.drop z) = [] := by
  by_cases hz : z = s.length
  ·rw [List.drop_of_length_le (by omega)]; rfl
  ·rw [drop_consS (by omega)]
   unfold twD
   rw [List.takeWhile_cons, h3.resolve_left hz]
   rfl
 rw [this, List.append_nil]
theorem tw_ge {s : Str} {z : Nat} (h1 : z ≤ s.length) (h2 : ∀ i, i < z → isDg (s.getD i 0) = true) : z ≤ (twD s).length := by
 have : twD s = s.take z ++ twD (s.drop z) := by
  conv => lhs; rw [← List.take_append_drop z s]
  exact tw_app (take_dg h1 h2)
 rw [this, List.length_append, List.length_take]
 omega
theorem natOk_at {s : Str} {z : Nat} (h1 : z ≤ s.length) (h2 : ∀ i, i < z → isDg (s.getD i 0) = true) (h3 : z = s.length ∨ 8 < z ∨ isDg (s.getD z 0) = false) :
  natOk s = !((z : Int) == 0 || ltB 8 (z : Int) || ltB 1 (z : Int) && ((s.getD 0 0).toNat : Int) == 48) ∧ (natOk s = true → twD s = s.take z) := by
 by_cases h8 : 8 < z
 ·have hg := tw_ge h1 h2
  have e : natOk s = false := by
   unfold natOk
   rw [show leB ((twD s).length : Int) 8 = false from Bool.eq_false_iff.2 fun e => by have := (leB_iff _ _).1 e; omega, Bool.and_false]
  rw [e, (ltB_iff _ _).2 (show (8 : Int) < (z : Int) by omega)]
  exact ⟨by simp, fun h => by cases h⟩
 ·have ht := tw_take h1 h2 (h3.imp id fun h => h.resolve_left h8)
  refine ⟨?_, fun _ => ht⟩
  have e48 : (((s.getD 0 0).toNat : Int) == 48) = (s.getD 0 0 == 48) := byte_eq (s.getD 0 0) 48 (by decide)
  unfold natOk
  have hl : (s.take z).length = z := by rw [List.length_take]; omega
  rw [ht, hl, e48, (leB_iff _ _).2 (show (z : Int) ≤ 8 by omega), Bool.and_true, show ltB 8 (z : Int) = false from Bool.eq_false_iff.2 fun e => by have := (ltB_iff _ _).1 e; omega]
  unfold digS
  rw [hl, List.all_eq_true.2 (take_dg h1 h2), show ltB 1 (z : Int) = Nat.blt 1 z from by rw [Bool.eq_iff_iff, ltB_iff, blt_iff]; omega]
  by_cases h0 : z = 0
  ·subst h0; rfl
  ·rw [(blt_iff _ _).2 (show 0 < z by omega), beq_eq_false_iff_ne.2 (show (z : Int) ≠ 0 by omega), getD_takeS (show 0 < z by omega)]
   cases Nat.blt 1 z <;> cases s.getD 0 0 == 48 <;> rfl
def rnint_an (s : Str) : Ann :=
 .two .auto (.two .auto (.two (.one (.loop Nat (fun σ z => [(0, σ.tm 0), (5, .i (decV (s.take z) : Int)), (6, .i (z : Int))]) (fun σ z => []) 0 (fun σ z => z ≤ s.length ∧ z ≤ 9 ∧ ∀ i, i < z → isDg (s.getD i 0) = true) (fun σ z => s.length - z) .auto)) .auto))
def rnint_t : List AV → Option (List Cond × AV)
 | [.str s] => some ([.p (s.length ≤ 9223372036854775807)], .tup 3 (listFn [.i (natN s), .str (natR s), .b (natOk s)]))
 | _ => none
theorem rnint_vc (s : List UInt8) (hl : s.length ≤ 9223372036854775807) :
 bndL [AV.str s] → (∃ (z : Nat), ((z ≤ lN s ∧ z ≤ 9 ∧ ∀ (i : Nat), i < z → isDg (gD s i (0 : UInt8)) = true) ∧ s = s ∧ (kI ∧ iZ = (↑(decV (List.take z s)) : Int)) ∧ kI ∧ iZ = (↑z : Int)) ∧ True) ∧ ∀ (z : Nat), let q1 := (ltB (↑z : Int) (lZ s)); let q3 := (bif ltB (↑z : Int) (lZ s) then leB (↑z : Int) (8 : Int) else false); let q2 := (!bsel true q3 || bsel true q3); let q4 := (iZ ≤ (↑z : Int) ∧ (↑z : Int) < (lZ s)); let q7 := (↑(UInt8.toNat (gD s (Int.toNat (↑z : Int))
 (0 : UInt8))) : Int); let q6 := (bif bif ltB (↑z : Int) (lZ s) then leB (↑z : Int) (8 : Int) else false then leB (48 : Int) q7 else false); let q5 := (!bsel true q6 || bsel true q6); let q8 := (q7 - (48 : Int)); let q10 := (bif (↑z : Int) == iZ then true else ltB (8 : Int) (↑z : Int)); let q9 := (!bsel false q10 || bsel false q10); let q12 := (bsel false q10 && bsel true (ltB iO (↑z : Int))); let q11 := (!q12 || bsel false q10 && bsel true (ltB iO (↑z : Int))); (z ≤ lN s ∧ z ≤ 9 ∧ ∀ (i : Nat), i < z → isDg (gD s i (0 : UInt8)) = true) →
 bsplit (!bsel true q1 || bsel true q1) (bsplit (!ltB (↑z : Int) (lZ s) || bsel true q1) (bsplit q2 (bsplit q2 (bsplit (!bsel true q3 || DB.db q4) (bsplit q2 (bsplit ((!bif ltB (↑z : Int) (lZ s) then leB (↑z : Int) (8 : Int) else false) || bsel true q3) (bsplit q5 (bsplit q5 (bsplit (!bsel true q6 || DB.db q4) (bsplit q5 (bsplit ((!bif bif ltB (↑z : Int) (lZ s) then leB (↑z : Int) (8 : Int) else false then leB (48 : Int) q7 else false) || bsel true q6) (bsplit (bif bif bif ltB (↑z : Int) (lZ s) then leB (↑z : Int) (8 : Int)
 else false then leB (48 : Int) q7 else false then leB q7 (57 : Int) else false) (bsplit (DB.db (inK .i64 ((10 : Int) * (↑(decV (List.take z s)) : Int)))) (bsplit (DB.db q4) (bsplit (DB.db (inK IntKind.u8 q8)) (bsplit (DB.db (inK .i64 q8)) (bsplit (DB.db (inK .i64 ((10 : Int) * (↑(decV (List.take z s)) : Int) + q8))) (bsplit (DB.db (inK .i64 ((↑z : Int) + iO))) (∃ (z' : Nat), (((z' ≤ lN s ∧ z' ≤ 9 ∧ ∀ (i : Nat), i < z' → isDg (gD s i (0 : UInt8)) = true) ∧ lN s - z' < lN s - z) ∧ s = s ∧ (kI ∧ (10 : Int) * (↑(decV (List.take z s)) : Int) +
 q8 = (↑(decV (List.take z' s)) : Int)) ∧ kI ∧ (↑z : Int) + iO = (↑z' : Int)) ∧ True) False) False) False) False) False) False) (bsplit (!bsel false ((↑z : Int) == iZ) || bsel false ((↑z : Int) == iZ)) (bsplit (!!(↑z : Int) == iZ || bsel false ((↑z : Int) == iZ)) (bsplit q9 (bsplit q9 (bsplit q11 (bsplit (!q12 || DB.db (iZ ≤ iZ ∧ iZ < (lZ s))) (bsplit q11 (bsplit q9 (bsplit (!bsel false q10 || (!ltB iO (↑z : Int) || bsel false q10 && bsel true (ltB iO (↑z : Int)))) (bsplit ((!!bif (↑z : Int)
 == iZ then true else ltB (8 : Int) (↑z : Int)) || bsel false q10) (bsplit (bif bif (↑z : Int) == iZ then true else ltB (8 : Int) (↑z : Int) then true else bif ltB iO (↑z : Int) then (↑(UInt8.toNat (gD s 0 (0 : UInt8))) : Int) == (48 : Int) else false) (3 = lN [AV.junk, AV.junk, AV.junk] ∧ ((True ∧ kI ∧ iZ = natN s) ∧ Array.toList (ByteArray.data (ByteArray.mk #[])) = natR s) ∧ false = natOk s) (bsplit (DB.db (iZ ≤ (↑z : Int) ∧ (↑z : Int) ≤ (lZ s))) (3 = lN [AV.junk, AV.junk, AV.junk] ∧ ((True ∧
 kI ∧ (↑(decV (List.take z s)) : Int) = natN s) ∧ List.drop (Int.toNat (↑z : Int)) s = natR s) ∧ true = natOk s) False)) False) False) False) False) False) False) False) False) False) False)) False) False) False) False) False) False) False) False) False) False) False) False := by
 delta kI lZ lN gD iZ iO
 dsimp only
 intro hb
 simp only [sS, dS, ltB_nat, dgc]
 have dg2 : ∀ c : UInt8, (leB 48 (c.toNat : Int) && leB (c.toNat : Int) 57) = isDg c := fun c => by rw [Bool.eq_iff_iff, Bool.and_eq_true, leB_iff, leB_iff, isDg_iff]; omega
 simp only [Bool.and_assoc, dg2]
 refine ⟨⟨0, ⟨Nat.zero_le _, Nat.zero_le _, fun i hi => absurd hi (Nat.not_lt_zero _)⟩, rfl, rfl⟩, fun z ⟨z1, z2, z3⟩ => ⟨fun h => ?_, fun h => ?_, bsplit_iff.2 ⟨fun c => ?_, fun c => ⟨fun h => ?_, ?_⟩⟩⟩⟩
 ·rw [Bool.and_eq_true] at h; have := (ltB_iff _ _).1 h.1; omega
 ·rw [Bool.and_eq_true] at h; have := (ltB_iff _ _).1 h.1; omega
 ·rw [Bool.and_eq_true, Bool.and_eq_true] at c
  obtain ⟨c1, c2, c3⟩ := c
  have c1 : z < s.length := by have := (ltB_iff _ _).1 c1; omega
  have c2 : z ≤ 8 := by have := (leB_iff _ _).1 c2; omega
  have hd := isDg_iff.1 c3
  have hst : (decV (s.take (z + 1)) : Int) = 10 * (decV (s.take z) : Int) + (((s.getD z 0).toNat : Int) - 48) := by
   rw [take_snocS (by omega), decV_snoc]
   unfold dgV
   omega
  have b1 : decV (s.take z) < 10 ^ 9 := by
   have h1 := decV_lt (l := s.take z) (List.all_eq_true.2 (take_dg z1 z3))
   exact Nat.lt_of_lt_of_le h1 (Nat.pow_le_pow_right (by omega) (by rw [List.length_take]; omega))
  rw [show 10 ^ 9 = 1000000000 from by decide] at b1
  refine ⟨⟨by omega, by omega⟩, ⟨by omega, by omega⟩, ⟨by omega, by omega⟩, ⟨by omega, by omega⟩, ⟨by omega, by omega⟩, ⟨by omega, by omega⟩, z + 1, ⟨⟨by omega, by omega, fun i hi => ?_⟩, by omega⟩, hst.symm, by omega⟩
  by_cases e : i = z
  ·rw [e]; exact c3
  ·exact z3 i (by omega)
 ·rw [Bool.and_eq_true, ltB_iff] at h; exact ⟨by omega, by omega⟩
 ·have h3 : z = s.length ∨ 8 < z ∨ isDg (s.getD z 0) = false := by
   by_cases q1 : z = s.length
   ·exact .inl q1
   by_cases q2 : 8 < z
   ·exact .inr (.inl q2)
   refine .inr (.inr ?_)
   have q3 : ltB (z : Int) (s.length : Int) = true := (ltB_iff _ _).2 (by omega)
   have q4 : leB (z : Int) 8 = true := (leB_iff _ _).2 (by omega)
   rw [q3, q4] at c
   simpa using c
  obtain ⟨k1, k2⟩ := natOk_at z1 z3 h3
  refine bsp_t (by cases ((z : Int) == 0 || ltB 8 (z : Int)) <;> cases ltB 1 (z : Int) <;> rfl) ?_
  unfold natN natR
  refine bsplit_iff.2 ⟨fun c2 => ?_, fun c2 => ?_⟩
  ·rw [c2] at k1
   rw [k1]
   exact ⟨rfl, ⟨rfl, rfl⟩, rfl⟩
  ·rw [c2] at k1
   have ht := k2 k1
   rw [k1, ht, List.length_take, show min z s.length = z by omega]
   exact ⟨⟨by omega, by omega⟩, rfl, ⟨rfl, rfl⟩, rfl⟩
theorem rnint_C (s : List UInt8) (hl : s.length ≤ 9223372036854775807) : PureCall Tryz.prog [] 193 [.str s] (.tup 3 (listFn [.i (natN s), .str (natR s), .b (natOk s)])) :=
 pure_of_vc (T := T0) (an := rnint_an s) mixed tb0_sound (Eq.mp (by kernel_rfl) (rnint_vc s hl))
theorem rnint_T : PureT Tryz.prog [] 193 rnint_t := by
 intro xs ps r h hp
 unfold rnint_t at h
 split at h
 ·skip
  rename_i s
  cases h
  obtain ⟨q0, -⟩ := allC hp
  exact weaken (ys := [.str s]) ⟨avM_refl _, trivial⟩ (rnint_C s q0)
 ·cases h
def gcdO (x y : Int) : Int := bif leB 0 x && leB 0 y then (Nat.gcd x.toNat y.toNat : Int) else 0
def rgcd_an (x y : Int) : Ann :=
 .two .auto (.two (.one (.loop GcP (fun σ z => [(0, .i z.x), (1, .i z.y)]) (fun σ z => []) 0 (fun σ z => 0 ≤ z.x ∧ 0 ≤ z.y ∧ z.x ≤ 9223372036854775807 ∧ z.y ≤ 9223372036854775807 ∧ Nat.gcd z.x.toNat z.y.toNat = Nat.gcd x.toNat y.toNat) (fun σ z => z.y.toNat) .auto)) .auto)
def rgcd_t : List AV → Option (List Cond × AV)
 | [.v (.int .i64 x), .v (.int .i64 y)] => some ([.p (0 ≤ x ∧ x ≤ 9223372036854775807), .p (0 ≤ y ∧ y ≤ 9223372036854775807)], .i (gcdO x y))
 | _ => none
theorem rgcd_vc (x : Int) (y : Int) (h1 : 0 ≤ x ∧ x ≤ 9223372036854775807) (h2 : 0 ≤ y ∧ y ≤ 9223372036854775807) :
 bndL [aI x, aI y] → (∃ (z : GcP), ((iZ ≤ GcP.x z ∧ iZ ≤ GcP.y z ∧ GcP.x z ≤ iX ∧ GcP.y z ≤ iX ∧ Nat.gcd (Int.toNat (GcP.x z)) (Int.toNat (GcP.y z)) = Nat.gcd (Int.toNat x) (Int.toNat y)) ∧ (kI ∧ x = GcP.x z) ∧ kI ∧ y = GcP.y z) ∧ True) ∧ ∀ (z : GcP), iZ ≤ GcP.x z ∧ iZ ≤ GcP.y z ∧ GcP.x z ≤ iX ∧ GcP.y z ≤ iX ∧ Nat.gcd (Int.toNat (GcP.x z)) (Int.toNat (GcP.y z)) = Nat.gcd (Int.toNat x) (Int.toNat y) →
 bsplit (GcP.y z != iZ) (bsplit (DB.db (GcP.y z ≠ iZ)) (∃ (z' : GcP), (((iZ ≤ GcP.x z' ∧ iZ ≤ GcP.y z' ∧ GcP.x z' ≤ iX ∧ GcP.y z' ≤ iX ∧ Nat.gcd (Int.toNat (GcP.x z')) (Int.toNat (GcP.y z')) = Nat.gcd (Int.toNat x) (Int.toNat y)) ∧ Int.toNat (GcP.y z') < Int.toNat (GcP.y z)) ∧ (kI ∧ GcP.y z = GcP.x z') ∧ kI ∧ Int.tmod (GcP.x z) (GcP.y z) = GcP.y z') ∧ True) False) (kI ∧ GcP.x z = gcdO x y) := by
 delta kI iZ iX aI
 intro hb
 simp only [sS, dS]
 have hO : gcdO x y = (Nat.gcd x.toNat y.toNat : Int) := by unfold gcdO; rw [(leB_iff _ _).2 h1.1, (leB_iff _ _).2 h2.1]; rfl
 rw [hO]
 refine ⟨⟨⟨x, y⟩, ⟨h1.1, h2.1, h1.2, h2.2, rfl⟩, rfl, rfl⟩, fun z ⟨z1, z2, z3, z4, z5⟩ => ⟨fun hy => ?_, fun hy => ?_⟩⟩
 ·generalize z.x = zx at *
  generalize z.y = zy at *
  obtain ⟨X, rfl⟩ : ∃ X : Nat, zx = X := ⟨zx.toNat, by omega⟩
  obtain ⟨Y, rfl⟩ : ∃ Y : Nat, zy = Y := ⟨zy.toNat, by omega⟩
  have tm : (X : Int).tmod (Y : Int) = ((X % Y : Nat) : Int) := by rw [Int.tmod_eq_emod_of_nonneg (by omega)]; omega
  have hm : X % Y < Y := Nat.mod_lt _ (by omega)
  refine ⟨hy, ⟨Y, ((X % Y : Nat) : Int)⟩, ⟨⟨by simp only; omega, by simp only; omega, by simp only; omega, by simp only; omega, ?_⟩, by simp only; omega⟩, rfl, tm⟩
  simp only [Int.toNat_natCast] at z5 ⊢
  rw [← gcd_step (by omega)]; exact z5
 ·rw [hy] at z5
  simp only [Int.toNat_zero, Nat.gcd_zero_right] at z5
  omega
theorem rgcd_C (x : Int) (y : Int) (h1 : 0 ≤ x ∧ x ≤ 9223372036854775807) (h2 : 0 ≤ y ∧ y ≤ 9223372036854775807) : PureCall Tryz.prog [] 194 [.i x, .i y] (.i (gcdO x y)) :=
 pure_of_vc (T := T0) (an := rgcd_an x y) mixed tb0_sound (Eq.mp (by kernel_rfl) (rgcd_vc x y h1 h2))
theorem rgcd_T : PureT Tryz.prog [] 194 rgcd_t := by
 intro xs ps r h hp
 unfold rgcd_t at h
 split at h
 ·skip
  rename_i x y
  cases h
  obtain ⟨q0, q1, -⟩ := allC hp
  exact weaken (ys := [.i x, .i y]) ⟨avM_refl _, avM_refl _, trivial⟩ (rgcd_C x y q0 q1)
 ·cases h
end Go.Te
