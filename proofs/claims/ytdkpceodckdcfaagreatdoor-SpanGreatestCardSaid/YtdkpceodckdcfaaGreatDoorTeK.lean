/- kingpostref01: the greatest common divisor. -/
import Derived.Test.YtdkpceodckdcfaaGreatDoorTeJ
set_option linter.unusedSimpArgs false
set_option linter.unusedVariables false
namespace Go.Te
open Go Go.Sx Go.Proofs Go.Ar Go.Lib
set_option maxRecDepth 100000
set_option maxHeartbeats 4000000
def gcdN (a b : Str) : Nat := Nat.gcd (valI a).natAbs (valI b).natAbs
instance : LawEnc Big := ⟨fun c => by cases c; simp [Enc.enc, Enc.dec, listFn, slD_slE, AV.bool], fun c => by cases c; simp [Enc.enc, Enc.ok, listFn, slOk_slE, isBool]⟩
theorem agD_big (f : Bool) (l : List Int) : agD (AV.agg 2 (listFn [AV.v (Value.bool f), AV.xl false 1 l.length fun i j => AV.v (Value.int IntKind.i64 (l.getD i 0))])) = (⟨f, l⟩ : Big) := agD_agE (⟨f, l⟩ : Big)
theorem agOk_big (f : Bool) (l : List Int) : agOk Big (AV.agg 2 (listFn [AV.v (Value.bool f), AV.xl false 1 l.length fun i j => AV.v (Value.int IntKind.i64 (l.getD i 0))])) = true := agOk_agE (⟨f, l⟩ : Big)
theorem nat_abs_if (x : Int) : (if -x > x then -x else x) = (x.natAbs : Int) := by split <;> omega
structure GcS where
  x : Int
  y : Int
structure GcL where
  x : Nat
  y : Nat
def r1gcd_an (a b : Str) : Ann :=
  .two .auto (.two .auto (.two (.two .auto (.two .auto (.two (.two (.one (.loop GcS (fun σ z => [(7, .i z.x), (8, .i z.y)]) (fun σ z => []) 0 (fun σ z => Nat.gcd z.x.natAbs z.y.natAbs = gcdN a b ∧ z.x.natAbs ≤ 100000000000000000 ∧ z.y.natAbs ≤ 100000000000000000) (fun σ z => z.y.natAbs) .auto)) .auto) .auto))) (.two .auto (.two (.one (.loop GcL (fun σ z => [(10, slE (limbs 1000000 z.x)), (11, slE (limbs 1000000 z.y))]) (fun σ z => []) 0 (fun σ z => Nat.gcd z.x z.y = gcdN a b ∧ (limbs 1000000 z.x).length ≤ 100000000 ∧ (limbs 1000000 z.y).length ≤ 100000000) (fun σ z => z.y) .auto)) .auto))))
noncomputable def TGc (G : List (Nat × Obj)) : Tb := (((((TIt G).plus 102 r1both_t).plus 103 r1two_t).plus 104 r1read_t).plus 105 r1div_t).plus 106 r1write_t
theorem TGc_sound {G : List (Nat × Obj)} (hG : TabIn G) : TbSound Tryz.prog (TGc G) :=
  TbSound.plus (TbSound.plus (TbSound.plus (TbSound.plus (TbSound.plus (TIt_sound hG) (PureT.mono r1both_T)) (PureT.mono r1two_T)) (PureT.mono r1read_T)) (PureT.mono r1div_T)) (PureT.mono r1write_T)
theorem natV {a : Str} (h : intB a = true) : (valI a).natAbs < 10 ^ a.length := by
  by_cases hm : a.getD 0 0 = 45
  · have h0 : 0 < a.length := by
      match a, h with
      | [], h => cases h
      | c :: r, _ => simp
    obtain ⟨_, hm1, _, hm4⟩ := int_minus h0 hm
    rw [hm4]
    rw [h] at hm1
    have hd : digS (a.drop 1) = true := by
      cases hx : digS (a.drop 1) with
      | true => rfl
      | false => rw [hx] at hm1; cases hm1
    have := decV_lt (l := a.drop 1) (List.all_eq_true.2 (digS_iff.1 hd).2.1)
    have h3 : 10 ^ (a.drop 1).length ≤ 10 ^ a.length := Nat.pow_le_pow_right (by omega) (by simp)
    omega
  · obtain ⟨hp1, _, hp3⟩ := int_plain (a := a) fun e => hm e.2
    rw [hp3]
    have := decV_lt (l := a) (List.all_eq_true.2 (digS_iff.1 (hp1.symm.trans h)).2.1)
    omega
theorem lenV {a : Str} (h : intB a = true) (hl : a.length ≤ 100000000) : (limbs 1000000 (valI a).natAbs).length ≤ 100000000 := by
  have h1 := natV h
  refine Nat.le_trans (limbs_len_le (b := 1000000) (k := a.length) (by omega) ?_) hl
  have h2 : 10 ^ a.length ≤ 1000000 ^ a.length := Nat.pow_le_pow_left (by omega) _
  exact_mod_cast Nat.lt_of_lt_of_le h1 h2
theorem b17 {s : Str} (hs : intB s = true) (h : leB (s.length : Int) 17 = true) : (valI s).natAbs ≤ 100000000000000000 := by
  have h1 := natV hs
  have h2 : 10 ^ s.length ≤ 10 ^ 17 := Nat.pow_le_pow_right (by omega) (by have := (leB_iff _ _).1 h; omega)
  omega
theorem r1gcd_vc (G : List (Nat × Obj)) (a b : Str) (hla : a.length ≤ 100000000) (hlb : b.length ≤ 100000000) :
 bndL [AV.str a, AV.str b] → List.length a ≤ 4294967280 ∧ List.length b ≤ 4294967280 ∧ bsplit (bothE a b != (0 : Int)) (2 = List.length [AV.str (Array.toList (ByteArray.data (ByteArray.mk #[]))), AV.v (Value.int .i64 (bothE a b))] ∧ (True ∧ Array.toList (ByteArray.data (ByteArray.mk #[])) = bif bothE a b != (0 : Int) then [] else itoa (↑(gcdN a b) : Int)) ∧ IntKind.i64 = .i64 ∧ bothE a b = bothE a b) (intB a = true ∧ List.length a ≤ 4294967280 ∧ intB b = true ∧ List.length b ≤ 4294967280 ∧ bsplit (leB (↑(List.length a) : Int) (17 : Int) && leB (↑(List.length b) : Int) (17 : Int)) ((∃ (z : GcS),
 ((Nat.gcd (Int.natAbs (GcS.x z)) (Int.natAbs (GcS.y z)) = gcdN a b ∧ Int.natAbs (GcS.x z) ≤ 100000000000000000 ∧ Int.natAbs (GcS.y z) ≤ 100000000000000000) ∧ (IntKind.i64 = .i64 ∧ (bif leB (↑(List.length a) : Int) (17 : Int) then valI a else (0 : Int)) = GcS.x z) ∧ IntKind.i64 = .i64 ∧ (bif leB (↑(List.length a) : Int) (17 : Int) && leB (↑(List.length b) : Int) (17 : Int) then valI b else (0 : Int)) = GcS.y z) ∧ True) ∧ ∀ (z : GcS), let q1 := (if -GcS.x z > GcS.x z then -GcS.x z else GcS.x z); Nat.gcd (Int.natAbs (GcS.x z)) (Int.natAbs (GcS.y z)) = gcdN a b ∧ Int.natAbs (GcS.x z) ≤
 100000000000000000 ∧ Int.natAbs (GcS.y z) ≤ 100000000000000000 → bsplit (GcS.y z != (0 : Int)) (bsplit (DB.db (GcS.y z ≠ (0 : Int))) (∃ (z' : GcS), (((Nat.gcd (Int.natAbs (GcS.x z')) (Int.natAbs (GcS.y z')) = gcdN a b ∧ Int.natAbs (GcS.x z') ≤ 100000000000000000 ∧ Int.natAbs (GcS.y z') ≤ 100000000000000000) ∧ Int.natAbs (GcS.y z') < Int.natAbs (GcS.y z)) ∧ (IntKind.i64 = .i64 ∧ GcS.y z = GcS.x z') ∧ IntKind.i64 = .i64 ∧ Int.tmod (GcS.x z) (GcS.y z) = GcS.y z') ∧ True) False) (bsplit (DB.db (inK .i64 (-GcS.x z))) ((((-9223372036854775808 : Int) ≤ if -GcS.x z > GcS.x z then -GcS.x z else GcS.x z)
 ∧ q1 ≤ (9223372036854775807 : Int)) ∧ 2 = List.length [AV.str (itoa q1), AV.v (Value.int .i64 (0 : Int))] ∧ (True ∧ itoa q1 = bif bothE a b != (0 : Int) then [] else itoa (↑(gcdN a b) : Int)) ∧ IntKind.i64 = .i64 ∧ (0 : Int) = bothE a b) False)) (intB a = true ∧ List.length a ≤ 4294967280 ∧ intB b = true ∧ List.length b ≤ 4294967280 ∧ (∃ (z : GcL), ((Nat.gcd (GcL.x z) (GcL.y z) = gcdN a b ∧ List.length (limbs 1000000 (GcL.x z)) ≤ 100000000 ∧ List.length (limbs 1000000 (GcL.y z)) ≤ 100000000) ∧ avM (AV.xl false 1 (List.length (limbs 1000000 (Int.natAbs (valI a)))) fun i j => AV.v (Value.int .i64
 (List.getD (limbs 1000000 (Int.natAbs (valI a))) i Enc.dflt))) (AV.xl false 1 (List.length (limbs 1000000 (GcL.x z))) fun i j => AV.v (Value.int .i64 (List.getD (limbs 1000000 (GcL.x z)) i Enc.dflt))) ∧ (false = true → false = true) ∧ 1 = 1 ∧ List.length (limbs 1000000 (GcL.y z)) = List.length (limbs 1000000 (Int.natAbs (valI b))) ∧ ∀ (i j : Nat), i < List.length (limbs 1000000 (Int.natAbs (valI b))) → j < 1 → IntKind.i64 = .i64 ∧ List.getD (limbs 1000000 (Int.natAbs (valI b))) i Enc.dflt = List.getD (limbs 1000000 (GcL.y z)) i Enc.dflt) ∧ True) ∧ ∀ (z : GcL), let q2 := (AV.xl false 1
 (List.length (limbs 1000000 (GcL.x z))) fun i j => AV.v (Value.int .i64 (List.getD (limbs 1000000 (GcL.x z)) i Enc.dflt))); let q3 := (AV.xl false 1 (List.length (limbs 1000000 (GcL.y z))) fun i j => AV.v (Value.int .i64 (List.getD (limbs 1000000 (GcL.y z)) i Enc.dflt))); let q4 := (intsOf q2); let q5 := (intsOf q3); let q6 := (limbs 1000000 (Int.toNat (valL (1000000 : Int) q4) % Int.toNat (valL (1000000 : Int) q5))); let q7 := (AV.agg 2 (listFn [AV.v (Value.bool false), AV.xl false 1 (List.length (limbs 1000000 (GcL.x z))) fun i j => AV.v (Value.int .i64 (List.getD (limbs 1000000 (GcL.x z)) i
 Enc.dflt))])); let q9 := (agD q7); let q8 := (Big.l q9); let q10 := (bif Big.neg q9 then -valL (1000000 : Int) q8 else valL (1000000 : Int) q8); Nat.gcd (GcL.x z) (GcL.y z) = gcdN a b ∧ List.length (limbs 1000000 (GcL.x z)) ≤ 100000000 ∧ List.length (limbs 1000000 (GcL.y z)) ≤ 100000000 → bsplit (ltB (0 : Int) (↑(List.length (limbs 1000000 (GcL.y z))) : Int)) (bsplit (slOk Int q2) (bsplit (slOk Int q3) ((∀ (x : Int), List.Mem x q4 → (0 : Int) ≤ x ∧ x < (1000000 : Int)) ∧ (∀ (x : Int), List.Mem x q5 → (0 : Int) ≤ x ∧ x < (1000000 : Int)) ∧ trimL q5 = intsOf q3 ∧ List.length q5 ≠ 0 ∧ List.length
 q4 ≤ 100000000 ∧ List.length q5 ≤ 100000000 ∧ ∃ (z' : GcL), (((Nat.gcd (GcL.x z') (GcL.y z') = gcdN a b ∧ List.length (limbs 1000000 (GcL.x z')) ≤ 100000000 ∧ List.length (limbs 1000000 (GcL.y z')) ≤ 100000000) ∧ GcL.y z' < GcL.y z) ∧ avM q3 (AV.xl false 1 (List.length (limbs 1000000 (GcL.x z'))) fun i j => AV.v (Value.int .i64 (List.getD (limbs 1000000 (GcL.x z')) i Enc.dflt))) ∧ (false = true → false = true) ∧ 1 = 1 ∧ List.length (limbs 1000000 (GcL.y z')) = List.length q6 ∧ ∀ (i j : Nat), i < List.length q6 → j < 1 → IntKind.i64 = .i64 ∧ List.getD q6 i Enc.dflt = List.getD (limbs 1000000
 (GcL.y z')) i Enc.dflt) ∧ True) False) False) (bsplit (agOk Big q7) ((∀ (x : Int), List.Mem x q8 → (0 : Int) ≤ x ∧ x < (1000000 : Int)) ∧ trimL q8 = Big.l q9 ∧ List.length q8 ≤ 100000000 ∧ (Big.neg q9 = true → List.length q8 ≠ 0) ∧ 2 = List.length [AV.str (itoa q10), AV.v (Value.int .i64 (0 : Int))] ∧ (True ∧ itoa q10 = bif bothE a b != (0 : Int) then [] else itoa (↑(gcdN a b) : Int)) ∧ IntKind.i64 = .i64 ∧ (0 : Int) = bothE a b) False))) := by
  dsimp only
  intro hb
  have e0 : (Enc.dflt : Int) = 0 := rfl
  simp only [↓vc_db, ↓vc_gdb, row_one]
  simp only [avM_refl, true_and, and_true, bsel_true, bsel_false, vc_own, bif_or, bif_and, vc_gdb, vc_db, vc_lt, vc_le, vc_ne, vc_eq, vc_tt, Int.toNat_natCast, Nat.zero_add, Nat.zero_le, Nat.sub_zero, int_i, Bool.or_true, cond_true, cond_false, okIn, okIn', deI, deI', deIo, deIo', e0]
  refine ⟨by omega, by omega, fun hE => ⟨rfl, by rw [bne_iff_ne.2 hE]; rfl⟩, fun hE => ?_⟩
  obtain ⟨hA, hB⟩ := bothE_zero hE
  have ia : intB a = true := (intE_zero.1 hA).1
  have ib : intB b = true := (intE_zero.1 hB).1
  have la := lenV ia hla
  have lb := lenV ib hlb
  simp only [hE, bne_self_eq_false, cond_false, agD_big, agOk_big, vc_tt, nat_abs_if]
  refine ⟨ia, by omega, ib, by omega, ?_⟩
  refine bsplit_iff.2 ⟨fun c => ?_, fun c => ⟨ia, by omega, ib, by omega, ?_⟩⟩
  · rw [Bool.and_eq_true] at c
    rw [c.1, c.2]
    simp only [cond_true, Bool.and_self]
    refine ⟨⟨⟨valI a, valI b⟩, ⟨rfl, b17 ia c.1, b17 ib c.2⟩, rfl, rfl⟩, fun z ⟨z1, z2, z3⟩ => ⟨fun hy => ⟨hy, ⟨z.y, z.x.tmod z.y⟩, ⟨⟨?_, z3, ?_⟩, ?_⟩, rfl, rfl⟩, fun hy => ?_⟩⟩
    · rw [Int.natAbs_tmod, ← gcd_step (y := z.y.natAbs) (by omega), z1]
    · rw [Int.natAbs_tmod]
      have : z.x.natAbs % z.y.natAbs ≤ z.x.natAbs := Nat.mod_le _ _
      omega
    · rw [Int.natAbs_tmod]
      exact Nat.mod_lt _ (by omega)
    · rw [hy, Int.natAbs_zero, Nat.gcd_zero_right] at z1
      rw [z1] at z2 ⊢
      exact ⟨⟨by omega, by omega⟩, ⟨by omega, by omega⟩, rfl, rfl, trivial⟩
  · refine ⟨⟨⟨(valI a).natAbs, (valI b).natAbs⟩, ⟨rfl, la, lb⟩, avM_refl _, fun h => h, rfl, fun _ _ _ _ => rfl⟩, fun z ⟨z1, z2, z3⟩ => ⟨fun hy => ?_, fun hy => ?_⟩⟩
    · have hy0 : z.y ≠ 0 := fun e => by rw [e, limbs_zero] at hy; exact absurd hy (by decide)
      simp only [vL, Int.toNat_natCast]
      have hm : z.x % z.y < z.y := Nat.mod_lt _ (by omega)
      have hlen := limbs_len_mono (b := 1000000) (m := z.x % z.y) (n := z.y) (by omega) (by omega)
      exact ⟨inLm _, inLm _, trim_limbs (b := 1000000) (by omega) _, by omega, z2, z3, ⟨z.y, z.x % z.y⟩, ⟨⟨by rw [← gcd_step hy0]; exact z1, z3, by simp only; omega⟩, hm⟩, avM_refl _, fun h => h, rfl, fun _ _ _ _ => rfl⟩
    · have hy0 := limbs_nil (b := 1000000) (n := z.y) (by omega) (by omega)
      rw [hy0, Nat.gcd_zero_right] at z1
      simp only [vL]
      rw [z1] at z2 ⊢
      exact ⟨inLm _, trim_limbs (b := 1000000) (by omega) _, z2, fun h => (by cases h), rfl, rfl, trivial⟩
def gcdA (a b : Str) : AV := .tup 2 (listFn [.str (bif bothE a b != 0 then [] else itoa (gcdN a b : Int)), .i (bothE a b)])
def r1gcd_t : List AV → Option (List Cond × AV)
  | [.str a, .str b] => some ([.p (a.length ≤ 100000000), .p (b.length ≤ 100000000)], gcdA a b)
  | _ => none
theorem r1gcd_C {G : List (Nat × Obj)} (hG : TabIn G) (a b : Str) (hla : a.length ≤ 100000000) (hlb : b.length ≤ 100000000) : PureCall Tryz.prog G 49 [.str a, .str b] (gcdA a b) :=
  pure_of_vc mixed (TGc_sound hG) (Eq.mp (by kernel_rfl) (r1gcd_vc G a b hla hlb) : vcFn Tryz.prog (TGc G) 49 (r1gcd_an a b) [.str a, .str b] (gcdA a b))
theorem r1gcd_T {G : List (Nat × Obj)} (hG : TabIn G) : PureT Tryz.prog G 49 r1gcd_t := by
  intro xs ps r h hp
  unfold r1gcd_t at h
  split at h
  · rename_i a b
    cases h
    exact r1gcd_C hG a b (hp _ List.mem_cons_self) (hp _ (List.mem_cons_of_mem _ List.mem_cons_self))
  · cases h
end Go.Te
