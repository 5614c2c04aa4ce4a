/- kingpostref43.Free and Fits. -/
import Derived.Test.YtojonobehnbeiaaGreatDoorTzR
import Derived.Test.YtojonobehnbeiaaGreatDoorTzM
set_option linter.unusedSimpArgs false
namespace Go.Tz
open Go Go.Sx Go.Proofs
set_option maxRecDepth 100000
set_option maxHeartbeats 2000000
theorem maxI (a b : Int) : (if b > a then b else a) = max a b := by split <;> omega
theorem minI (a b : Int) : (if b < a then b else a) = min a b := by split <;> omega
theorem snoc_enc {α : Type} [Enc α] (l : List α) (x : α) (row : Nat → AV) (n : Nat) (hrow : ∀ j, j < n → row j = Enc.enc x j) (i j : Nat) (hi : i < l.length + 1) (hj : j < n) :
    avM (if i < l.length then Enc.enc (l.getD i Enc.dflt) j else Sx.rowAt [row] (i - l.length) j) (Enc.enc ((l ++ [x]).getD i Enc.dflt) j) := by
  by_cases h : i < l.length
  · rw [if_pos h, show (l ++ [x]).getD i Enc.dflt = l.getD i Enc.dflt by simp [List.getD_eq_getElem?_getD, List.getElem?_append_left h]]
    exact avM_refl _
  · rw [if_neg h, show i - l.length = 0 by omega, show (l ++ [x]).getD i Enc.dflt = x by
      obtain rfl : i = l.length := by omega
      simp [List.getD_eq_getElem?_getD]]
    exact avM_of_eq (hrow j hj)
theorem rowG (a b : Int) (j : Nat) (hj : j < 2) : listFn [AV.v (Value.int IntKind.i64 a), AV.v (Value.int IntKind.i64 b)] j = Enc.enc (⟨a, b⟩ : Gap) j := rfl
def gArr (l : List Gap) : OB := .arr 107 2 l.length fun i j => Enc.enc (l.getD i Enc.dflt) j
def iArr (l : List Int) : OB := .arr 3 1 l.length fun i _ => .i (l.getD i 0)
def freeE (b : Bar) : Int := bif barE b != 0 then 1 else 0
def freeG (b : Bar) : List Gap := bif barE b != 0 then [] else partsF 0 b.gs b.l
structure FrS where
  i : Nat
  fr : Int
  out : List Gap
def reffree_an (b : Bar) : Ann :=
  .two .auto (.two .auto (.two .auto (.two .auto (.two (.two .auto (.one (.loop FrS (fun σ z => [(1, σ.tm 1), (4, .ns σ.nb 0 z.out.length), (5, .i z.fr), (6, .i z.i)]) (fun σ z => [(σ.nb, gArr z.out)]) 1 (fun σ z => z.i ≤ b.gs.length ∧ z.out.length ≤ z.i ∧ z.out ++ partsF z.fr (b.gs.drop z.i) b.l = partsF 0 b.gs b.l) (fun σ z => b.gs.length - z.i) .auto))) .auto))))
def Tfr : Tb := T0.plus 30 refbar_t
theorem Tfr_sound : TbSound Tryz.prog Tfr := TbSound.plus tb0_sound refbar_T
theorem reffree_vc (b : Bar) : bndL [AV.agg 6 (Enc.enc b)] → bsplit (agOk Bar (AV.agg 6 fun (i : Nat) => Enc.enc b (0 + i))) (bsplit (barE (agD (AV.agg 6 fun (i : Nat) => Enc.enc b (0 + i))) != (0 : Int)) (2 = List.length [AV.v (Value.slice (Non Addr) 0 0), AV.v (Value.int .i64 (1 : Int))] ∧ (True ∧ Value.slice (Non Addr) 0 0 = Value.slice (Non Addr) 0 0 ∧ List.length (freeG b) = 0) ∧ IntKind.i64 = .i64 ∧ (1 : Int) = freeE b) ((∃ (z : FrS), ((FrS.i z ≤ List.length (Bar.gs b) ∧ List.length (FrS.out z) ≤ FrS.i z ∧ FrS.out z ++ partsF (FrS.fr z) (List.drop (FrS.i z) (Bar.gs b)) (Bar.l b) = partsF
 (0 : Int) (Bar.gs b) (Bar.l b)) ∧ (nat_lit 0 = 0 ∧ 0 = 0) ∧ (some (Non Nat) = some (Non Nat) ∧ 0 = 0 ∧ List.length (FrS.out z) = 0) ∧ (IntKind.i64 = .i64 ∧ (0 : Int) = FrS.fr z) ∧ IntKind.i64 = .i64 ∧ (0 : Int) = (↑(FrS.i z) : Int)) ∧ (26 = 26 ∧ 6 = 6 ∧ (((((IntKind.i64 = .i64 ∧ Bar.w b = Bar.w b) ∧ IntKind.i64 = .i64 ∧ Bar.d b = Bar.d b) ∧ IntKind.i64 = .i64 ∧ Bar.l b = Bar.l b) ∧ IntKind.i64 = .i64 ∧ Bar.n b = Bar.n b) ∧ IntKind.i64 = .i64 ∧ Bar.c b = Bar.c b) ∧ avM (slX 2 (Bar.gs b)) (slX 2 (Bar.gs b))) ∧ List.length (FrS.out z) = 0) ∧ ∀ (z : FrS), FrS.i z ≤ List.length (Bar.gs b) ∧
 List.length (FrS.out z) ≤ FrS.i z ∧ FrS.out z ++ partsF (FrS.fr z) (List.drop (FrS.i z) (Bar.gs b)) (Bar.l b) = partsF (0 : Int) (Bar.gs b) (Bar.l b) → bsplit (ltB (↑(FrS.i z) : Int) (↑(List.length (Bar.gs b)) : Int)) (bsplit (DB.db ((0 : Int) ≤ (↑(FrS.i z) : Int) ∧ (↑(FrS.i z) : Int) < (↑(List.length (Bar.gs b)) : Int))) (bsplit (ltB (FrS.fr z) (Gap.a (List.getD (Bar.gs b) (Int.toNat (↑(FrS.i z) : Int)) Enc.dflt))) (bsplit (DB.db ((0 : Int) ≤ (↑(FrS.i z) : Int) ∧ (↑(FrS.i z) : Int) < (↑(List.length (Bar.gs b)) : Int))) (bsplit (DB.db ((List.length (FrS.out z) + 1) * 16 ≤ 140737488355328))
 (bsplit (DB.db ((0 : Int) ≤ (↑(FrS.i z) : Int) ∧ (↑(FrS.i z) : Int) < (↑(List.length (Bar.gs b)) : Int))) (bsplit (DB.db (inK .i64 ((↑(FrS.i z) : Int) + (1 : Int)))) (∃ (z' : FrS), (((FrS.i z' ≤ List.length (Bar.gs b) ∧ List.length (FrS.out z') ≤ FrS.i z' ∧ FrS.out z' ++ partsF (FrS.fr z') (List.drop (FrS.i z') (Bar.gs b)) (Bar.l b) = partsF (0 : Int) (Bar.gs b) (Bar.l b)) ∧ List.length (Bar.gs b) - FrS.i z' < List.length (Bar.gs b) - FrS.i z) ∧ (nat_lit 0 = 0 ∧ 0 = 0) ∧ (nat_lit 1 = 1 ∧ 0 = 0 ∧ List.length (FrS.out z') = List.length (FrS.out z) + 1) ∧ (IntKind.i64 = .i64 ∧ Gap.b (List.getD
 (Bar.gs b) (Int.toNat (↑(FrS.i z) : Int)) Enc.dflt) = FrS.fr z') ∧ IntKind.i64 = .i64 ∧ (↑(FrS.i z) : Int) + (1 : Int) = (↑(FrS.i z') : Int)) ∧ (26 = 26 ∧ 6 = 6 ∧ (((((IntKind.i64 = .i64 ∧ Bar.w b = Bar.w b) ∧ IntKind.i64 = .i64 ∧ Bar.d b = Bar.d b) ∧ IntKind.i64 = .i64 ∧ Bar.l b = Bar.l b) ∧ IntKind.i64 = .i64 ∧ Bar.n b = Bar.n b) ∧ IntKind.i64 = .i64 ∧ Bar.c b = Bar.c b) ∧ avM (slX 2 (Bar.gs b)) (slX 2 (Bar.gs b))) ∧ (107 : TypeId) = 107 ∧ 2 = 2 ∧ List.length (FrS.out z') = List.length (FrS.out z) + 1 ∧ ∀ (i j : Nat), i < List.length (FrS.out z) + 1 → j < 2 → avM (if i < List.length (FrS.out
 z) then Enc.enc (List.getD (FrS.out z) i Enc.dflt) j else Sx.rowAt [listFn [AV.v (Value.int .i64 (FrS.fr z)), AV.v (Value.int .i64 (Gap.a (List.getD (Bar.gs b) (Int.toNat (↑(FrS.i z) : Int)) Enc.dflt)))]] (i - List.length (FrS.out z)) j) (Enc.enc (List.getD (FrS.out z') i Enc.dflt) j)) False) False) False) False) (bsplit (DB.db ((0 : Int) ≤ (↑(FrS.i z) : Int) ∧ (↑(FrS.i z) : Int) < (↑(List.length (Bar.gs b)) : Int))) (bsplit (DB.db (inK .i64 ((↑(FrS.i z) : Int) + (1 : Int)))) (∃ (z' : FrS), (((FrS.i z' ≤ List.length (Bar.gs b) ∧ List.length (FrS.out z') ≤ FrS.i z' ∧ FrS.out z' ++ partsF (FrS.fr
 z') (List.drop (FrS.i z') (Bar.gs b)) (Bar.l b) = partsF (0 : Int) (Bar.gs b) (Bar.l b)) ∧ List.length (Bar.gs b) - FrS.i z' < List.length (Bar.gs b) - FrS.i z) ∧ (nat_lit 0 = 0 ∧ 0 = 0) ∧ (nat_lit 1 = 1 ∧ 0 = 0 ∧ List.length (FrS.out z') = List.length (FrS.out z)) ∧ (IntKind.i64 = .i64 ∧ Gap.b (List.getD (Bar.gs b) (Int.toNat (↑(FrS.i z) : Int)) Enc.dflt) = FrS.fr z') ∧ IntKind.i64 = .i64 ∧ (↑(FrS.i z) : Int) + (1 : Int) = (↑(FrS.i z') : Int)) ∧ (26 = 26 ∧ 6 = 6 ∧ (((((IntKind.i64 = .i64 ∧ Bar.w b = Bar.w b) ∧ IntKind.i64 = .i64 ∧ Bar.d b = Bar.d b) ∧ IntKind.i64 = .i64 ∧ Bar.l b = Bar.l b) ∧
 IntKind.i64 = .i64 ∧ Bar.n b = Bar.n b) ∧ IntKind.i64 = .i64 ∧ Bar.c b = Bar.c b) ∧ avM (slX 2 (Bar.gs b)) (slX 2 (Bar.gs b))) ∧ 107 = 107 ∧ 2 = 2 ∧ List.length (FrS.out z') = List.length (FrS.out z) ∧ ∀ (i j : Nat), i < List.length (FrS.out z) → j < 2 → avM (Enc.enc (List.getD (FrS.out z) i Enc.dflt) j) (Enc.enc (List.getD (FrS.out z') i Enc.dflt) j)) False) False)) False) (bsplit (ltB (FrS.fr z) (Bar.l b)) (bsplit (DB.db ((List.length (FrS.out z) + 1) * 16 ≤ 140737488355328)) (2 = List.length [AV.xl false 2 (List.length (FrS.out z) + 1) fun i j => if 0 + i < List.length (FrS.out z) then
 Enc.enc (List.getD (FrS.out z) (0 + i) Enc.dflt) j else Sx.rowAt [listFn [AV.v (Value.int .i64 (FrS.fr z)), AV.v (Value.int .i64 (Bar.l b))]] (0 + i - List.length (FrS.out z)) j, AV.v (Value.int .i64 (0 : Int))] ∧ (True ∧ avM (AV.xl false 2 (List.length (FrS.out z) + 1) fun i j => if 0 + i < List.length (FrS.out z) then Enc.enc (List.getD (FrS.out z) (0 + i) Enc.dflt) j else Sx.rowAt [listFn [AV.v (Value.int .i64 (FrS.fr z)), AV.v (Value.int .i64 (Bar.l b))]] (0 + i - List.length (FrS.out z)) j) (slX 2 (freeG b))) ∧ IntKind.i64 = .i64 ∧ (0 : Int) = freeE b) False) (2 = List.length [AV.xl false
 2 (List.length (FrS.out z)) fun i j => Enc.enc (List.getD (FrS.out z) (0 + i) Enc.dflt) j, AV.v (Value.int .i64 (0 : Int))] ∧ (True ∧ avM (AV.xl false 2 (List.length (FrS.out z)) fun i j => Enc.enc (List.getD (FrS.out z) (0 + i) Enc.dflt) j) (slX 2 (freeG b))) ∧ IntKind.i64 = .i64 ∧ (0 : Int) = freeE b)))) False := by
  intro hb
  simp only [slX, slN, avM_refl, true_and, and_true, bsel_true, bsel_false, vc_own, bif_or, bif_and, vc_gdb, vc_db, vc_lt, vc_le, vc_ne, vc_eq, vc_tt, Int.toNat_natCast, Nat.zero_add, Nat.zero_le, Nat.sub_zero, agD_bar, agOk_bar, agD_bar', agOk_bar', agD_cut, agOk_cut, agD_cut', agOk_cut', agD_used, agOk_used, agD_used', agOk_used', int_i, Bool.or_true, cond_true, cond_false]
  refine ⟨fun h => ?_, fun h => ?_⟩
  · have e : (barE b != 0) = true := bne_iff_ne.2 h
    unfold freeG freeE
    rw [e]
    exact ⟨rfl, rfl, rfl⟩
  have eG : freeG b = partsF 0 b.gs b.l := by unfold freeG; rw [h]; rfl
  have eE : 0 = freeE b := by unfold freeE; rw [h]; rfl
  have hg := (barE_gaps h).2.2.2.1
  rw [eG, ← eE]
  refine ⟨⟨⟨0, 0, []⟩, ⟨⟨Nat.zero_le _, Nat.le_refl _, rfl⟩, rfl, rfl, rfl⟩, rfl⟩, fun z ⟨h1, h2, h3⟩ => ⟨fun hlt => ⟨by omega, fun hf => ⟨by omega, by omega, by omega, by simp only [inK]; omega,
    ⟨z.i + 1, (b.gs.getD z.i ⟨0, 0⟩).b, z.out ++ [⟨z.fr, (b.gs.getD z.i ⟨0, 0⟩).a⟩]⟩, ⟨⟨⟨by simp only; omega, by simp only [List.length_append, List.length_cons, List.length_nil]; omega, ?_⟩, by simp only; omega⟩, by simp, rfl, by simp⟩, by simp, ?_⟩,
    fun hf => ⟨by omega, by simp only [inK]; omega, ⟨z.i + 1, (b.gs.getD z.i ⟨0, 0⟩).b, z.out⟩, ⟨⟨⟨by simp only; omega, by simp only; omega, ?_⟩, by simp only; omega⟩, rfl, rfl, by simp⟩, rfl, fun i j _ _ => avM_refl _⟩⟩, fun hge => ?_⟩⟩
  · rw [getD_drop (d := Enc.dflt) (by omega), partsF, (ltB_iff _ _).2 hf, cond_true] at h3
    rw [← h3, List.append_assoc]; rfl
  · exact snoc_enc z.out ⟨z.fr, (b.gs.getD z.i ⟨0, 0⟩).a⟩ _ 2 fun j hj => rfl
  · rw [getD_drop (d := Enc.dflt) (by omega), partsF, show ltB z.fr (b.gs.getD z.i Enc.dflt).a = false by rw [ltB_eq, decide_eq_false_iff_not]; omega, cond_false] at h3
    exact h3
  · rw [show z.i = b.gs.length by omega, List.drop_length, partsF] at h3
    refine ⟨fun hf => ⟨by omega, rfl, ?_, rfl⟩, fun hf => ⟨rfl, ?_, rfl⟩⟩
    · rw [(ltB_iff _ _).2 hf, cond_true] at h3
      rw [← h3]
      exact ⟨fun h => h, rfl, by simp, fun i j hi hj => snoc_enc z.out ⟨z.fr, b.l⟩ _ 2 (fun j hj => rfl) i j hi hj⟩
    · rw [show ltB z.fr b.l = false by rw [ltB_eq, decide_eq_false_iff_not]; omega, cond_false, List.append_nil] at h3
      rw [← h3]
      exact avM_refl _
theorem reffree_C (b : Bar) : PureCall Tryz.prog [] 124 [agE b] (.tup 2 (listFn [slE (freeG b), .i (freeE b)])) :=
  pure_of_vc mixed Tfr_sound (Eq.mp (by kernel_rfl) (reffree_vc b) : vcFn Tryz.prog Tfr 124 (reffree_an b) [agE b] (.tup 2 (listFn [slE (freeG b), .i (freeE b)])))
structure RS where
  i : Nat
  part : Nat
  at_ : Int
  out : List Int
def reffits_an (b : Bar) (ls : List Int) (k : Int) : Ann :=
  .two .auto (.two .auto (.two .auto (.two .auto (.two .auto (.two (.two .auto (.one (.loop Nat (fun σ z => [(1, σ.tm 1), (2, σ.tm 2), (9, σ.tm 9), (11, .i z)]) (fun σ z => []) 0 (fun σ z => z ≤ ls.length ∧ ∀ i, i < z → lenOut (ls.getD i 0) = false) (fun σ z => ls.length - z) .auto))) (.two .auto (.two .auto (.two (.two .auto (.one (.loop RS (fun σ z => [(1, σ.tm 1), (2, σ.tm 2), (9, σ.tm 9), (12, .ns σ.nb 0 z.out.length), (13, .i z.part), (14, .i z.at_), (15, .i z.i)]) (fun σ z => [(σ.nb, iArr z.out)]) 1 (fun σ z => z.i ≤ ls.length ∧ z.out.length = z.i ∧ z.part ≤ (freeG b).length ∧ 0 ≤ z.at_ ∧ z.at_ ≤ 65536 ∧ refF k ((freeG b).drop z.part) z.at_ z.out (ls.drop z.i) = refF k (freeG b) 0 [] ls) (fun σ z => ls.length - z.i) (.two .auto (.two (.one (.two (.one (.loop Nat (fun σ z => [(1, σ.tm 1), (2, σ.tm 2), (9, σ.tm 9), (12, σ.tm 12), (14, σ.tm 14), (15, σ.tm 15), (13, .i z)]) (fun σ z => []) 0 (fun σ z => z ≤ (freeG b).length ∧ ∀ o, refF k ((freeG b).drop z) (AV.int (σ.tm 14)) o (ls.drop (AV.int (σ.tm 15)).toNat) = refF k ((freeG b).drop (AV.int (σ.tm 13)).toNat) (AV.int (σ.tm 14)) o (ls.drop (AV.int (σ.tm 15)).toNat)) (fun σ z => (freeG b).length - z) .auto)) .auto)) .auto))))) .auto))))))))
def Tff (b : Bar) : Tb := (T0.plus 67 outside3_t).plus 124 (inst [agE b] (.tup 2 (listFn [slE (freeG b), .i (freeE b)])))
theorem reffits_vc (b : Bar) (ls : List Int) (k : Int) :
 let q1 := ((True ∧ Value.slice (Non Addr) 0 0 = Value.slice (Non Addr) 0 0 ∧ List.length (fitsAt b ls k) = 0) ∧ false = fitsOk b ls k); let q2 := (3 = List.length [AV.v (Value.slice (Non Addr) 0 0), AV.v (Value.bool false), AV.v (Value.int .i64 (2 : Int))] ∧ q1 ∧ IntKind.i64 = .i64 ∧ (2 : Int) = fitsE b ls k); let q3 := (((((IntKind.i64 = .i64 ∧ Bar.w b = Bar.w b) ∧ IntKind.i64 = .i64 ∧ Bar.d b = Bar.d b) ∧ IntKind.i64 = .i64 ∧ Bar.l b = Bar.l b) ∧ IntKind.i64 = .i64 ∧ Bar.n b = Bar.n b) ∧ IntKind.i64 = .i64 ∧ Bar.c b = Bar.c b); let q5 := (26 = 26 ∧ 6 = 6 ∧ q3 ∧ avM (slX 2 (Bar.gs b)) (slX 2
 (Bar.gs b))); bndL [AV.agg 6 (Enc.enc b), slN ls, AV.v (Value.int .i64 k)] → Wk [AV.agg 6 fun (i : Nat) => Enc.enc b (0 + i)] [AV.agg 6 (Enc.enc b)] ∧ bsplit (freeE b != (0 : Int)) (3 = List.length [AV.v (Value.slice (Non Addr) 0 0), AV.v (Value.bool false), AV.v (Value.int .i64 (freeE b))] ∧ q1 ∧ IntKind.i64 = .i64 ∧ freeE b = fitsE b ls k) (bsplit (ltB k (0 : Int) || ltB (100 : Int) k) q2 (bsplit (ltB (64 : Int) (ls.length : Int)) (3 = List.length [AV.v (Value.slice (Non Addr) 0 0), AV.v (Value.bool false), AV.v (Value.int .i64 (4 : Int))] ∧ q1 ∧ IntKind.i64 = .i64 ∧ (4 : Int) = fitsE b ls k)
 ((∃ (z : Nat), ((z ≤ ls.length ∧ ∀ (i : Nat), i < z → lenOut (List.getD ls i (0 : Int)) = false) ∧ avM (slN ls) (slN ls) ∧ (IntKind.i64 = .i64 ∧ k = k) ∧ avM (slX 2 (freeG b)) (slX 2 (freeG b)) ∧ IntKind.i64 = .i64 ∧ (0 : Int) = (z : Int)) ∧ 26 = 26 ∧ 6 = 6 ∧ q3 ∧ avM (slX 2 (Bar.gs b)) (slX 2 (Bar.gs b))) ∧ ∀ (z : Nat), let q4 := (List.getD ls (Int.toNat (z : Int)) Enc.dflt); (z ≤ ls.length ∧ ∀ (i : Nat), i < z → lenOut (List.getD ls i (0 : Int)) = false) → bsplit (ltB (z : Int) (ls.length : Int)) (bsplit (DB.db ((0 : Int) ≤ (z : Int) ∧ (z : Int) < (ls.length : Int))) (bsplit (ltB q4 (1 : Int)
 || ltB (65536 : Int) q4) q2 (bsplit (DB.db (inK .i64 ((z : Int) + (1 : Int)))) (∃ (z' : Nat), (((z' ≤ ls.length ∧ ∀ (i : Nat), i < z' → lenOut (List.getD ls i (0 : Int)) = false) ∧ ls.length - z' < ls.length - z) ∧ avM (slN ls) (slN ls) ∧ (IntKind.i64 = .i64 ∧ k = k) ∧ avM (slX 2 (freeG b)) (slX 2 (freeG b)) ∧ IntKind.i64 = .i64 ∧ (z : Int) + (1 : Int) = (z' : Int)) ∧ 26 = 26 ∧ 6 = 6 ∧ q3 ∧ avM (slX 2 (Bar.gs b)) (slX 2 (Bar.gs b))) False)) False) ((∃ (z : RS), ((RS.i z ≤ ls.length ∧ List.length (RS.out z) = RS.i z ∧ RS.part z ≤ List.length (freeG b) ∧ (0 : Int) ≤ RS.at_ z ∧ RS.at_ z ≤ (65536 :
 Int) ∧ refF k (List.drop (RS.part z) (freeG b)) (RS.at_ z) (RS.out z) (List.drop (RS.i z) ls) = refF k (freeG b) (0 : Int) [] ls) ∧ avM (slN ls) (slN ls) ∧ (IntKind.i64 = .i64 ∧ k = k) ∧ avM (slX 2 (freeG b)) (slX 2 (freeG b)) ∧ (some (Non Nat) = some (Non Nat) ∧ 0 = 0 ∧ List.length (RS.out z) = 0) ∧ (IntKind.i64 = .i64 ∧ (0 : Int) = (↑(RS.part z) : Int)) ∧ (IntKind.i64 = .i64 ∧ (0 : Int) = RS.at_ z) ∧ IntKind.i64 = .i64 ∧ (0 : Int) = (↑(RS.i z) : Int)) ∧ q5 ∧ List.length (RS.out z) = 0) ∧ ∀ (z : RS), let q6 := (AV.int (AV.v (Value.int .i64 (RS.at_ z)))); let q7 := (List.drop (Int.toNat (AV.int
 (AV.v (Value.int .i64 (↑(RS.i z) : Int))))) ls); let q8 := (List.drop (Int.toNat (AV.int (AV.v (Value.int .i64 (↑(RS.part z) : Int))))) (freeG b)); let q9 := (nat_lit 1 = 1 ∧ 0 = 0 ∧ List.length (RS.out z) = List.length (RS.out z)); let q10 := (IntKind.i64 = .i64 ∧ RS.at_ z = RS.at_ z); let q11 := (IntKind.i64 = .i64 ∧ (↑(RS.i z) : Int) = (↑(RS.i z) : Int)); let q16 := ((0 : Int) ≤ (↑(RS.i z) : Int) ∧ (↑(RS.i z) : Int) < (ls.length : Int)); RS.i z ≤ ls.length ∧ List.length (RS.out z) = RS.i z ∧ RS.part z ≤ List.length (freeG b) ∧ (0 : Int) ≤ RS.at_ z ∧ RS.at_ z ≤ (65536 : Int) ∧ refF k
 (List.drop (RS.part z) (freeG b)) (RS.at_ z) (RS.out z) (List.drop (RS.i z) ls) = refF k (freeG b) (0 : Int) [] ls → bsplit (ltB (↑(RS.i z) : Int) (ls.length : Int)) ((∃ (z_1 : Nat), ((z_1 ≤ List.length (freeG b) ∧ ∀ (o : List Int), refF k (List.drop z_1 (freeG b)) q6 o q7 = refF k q8 q6 o q7) ∧ avM (slN ls) (slN ls) ∧ (IntKind.i64 = .i64 ∧ k = k) ∧ avM (slX 2 (freeG b)) (slX 2 (freeG b)) ∧ q9 ∧ q10 ∧ q11 ∧ IntKind.i64 = .i64 ∧ (↑(RS.part z) : Int) = (z_1 : Int)) ∧ q5 ∧ 3 = 3 ∧ 1 = 1 ∧ List.length (RS.out z) = List.length (RS.out z) ∧ ∀ (i j : Nat), i < List.length (RS.out z) → j < 1 →
 IntKind.i64 = .i64 ∧ List.getD (RS.out z) i (0 : Int) = List.getD (RS.out z) i (0 : Int)) ∧ ∀ (z_1 : Nat), let q13 := (ltB (z_1 : Int) (↑(List.length (freeG b)) : Int)); let q12 := (!bsel true q13 || bsel true q13); let q15 := ((0 : Int) ≤ (z_1 : Int) ∧ (z_1 : Int) < (↑(List.length (freeG b)) : Int)); let q14 := (!bsel true q13 || DB.db q15); let q20 := (List.getD (freeG b) (Int.toNat (z_1 : Int)) Enc.dflt); let q19 := (if Gap.a q20 > RS.at_ z then Gap.a q20 else RS.at_ z); let q18 := (q19 + List.getD ls (Int.toNat (↑(RS.i z) : Int)) Enc.dflt); let q17 := (inK .i64 q18); let q21 := (DB.db q15);
 (z_1 ≤ List.length (freeG b) ∧ ∀ (o : List Int), refF k (List.drop z_1 (freeG b)) q6 o q7 = refF k q8 q6 o q7) → bsplit q12 (bsplit q12 (bsplit q14 (bsplit q12 (bsplit q12 (bsplit q12 (bsplit q12 (bsplit q12 (bsplit q12 (bsplit (!bsel true q13 || DB.db q16) (bsplit q12 (bsplit q12 (bsplit q12 (bsplit (!bsel true q13 || DB.db q17) (bsplit q12 (bsplit q12 (bsplit q14 (bsplit q12 (bsplit q12 (bsplit q12 (bsplit q12 (bsplit (!ltB (z_1 : Int) (↑(List.length (freeG b)) : Int) || bsel true q13) (bsplit (bif ltB (z_1 : Int) (↑(List.length (freeG b)) : Int) then ltB (Gap.b q20) q18 else false) (bsplit
 (DB.db (inK .i64 ((z_1 : Int) + (1 : Int)))) (∃ (z' : Nat), (((z' ≤ List.length (freeG b) ∧ ∀ (o : List Int), refF k (List.drop z' (freeG b)) q6 o q7 = refF k q8 q6 o q7) ∧ List.length (freeG b) - z' < List.length (freeG b) - z_1) ∧ avM (slN ls) (slN ls) ∧ (IntKind.i64 = .i64 ∧ k = k) ∧ avM (slX 2 (freeG b)) (slX 2 (freeG b)) ∧ q9 ∧ q10 ∧ q11 ∧ IntKind.i64 = .i64 ∧ (z_1 : Int) + (1 : Int) = (z' : Int)) ∧ q5 ∧ 3 = 3 ∧ 1 = 1 ∧ List.length (RS.out z) = List.length (RS.out z) ∧ ∀ (i j : Nat), i < List.length (RS.out z) → j < 1 → IntKind.i64 = .i64 ∧ List.getD (RS.out z) i (0 : Int) = List.getD
 (RS.out z) i (0 : Int)) False) (bsplit ((z_1 : Int) == (↑(List.length (freeG b)) : Int)) (3 = List.length [AV.v (Value.slice (Non Addr) 0 0), AV.v (Value.bool false), AV.v (Value.int .i64 (0 : Int))] ∧ q1 ∧ IntKind.i64 = .i64 ∧ (0 : Int) = fitsE b ls k) (bsplit q21 (bsplit (DB.db ((List.length (RS.out z) + 1) * 8 ≤ 140737488355328)) (bsplit (DB.db q16) (bsplit (DB.db q17) (bsplit (DB.db (inK .i64 (q19 + List.getD ls (Int.toNat (↑(RS.i z) : Int)) Enc.dflt + k))) (bsplit q21 (bsplit (DB.db (inK .i64 ((↑(RS.i z) : Int) + (1 : Int)))) (∃ (z' : RS), (((RS.i z' ≤ ls.length ∧ List.length (RS.out z') =
 RS.i z' ∧ RS.part z' ≤ List.length (freeG b) ∧ (0 : Int) ≤ RS.at_ z' ∧ RS.at_ z' ≤ (65536 : Int) ∧ refF k (List.drop (RS.part z') (freeG b)) (RS.at_ z') (RS.out z') (List.drop (RS.i z') ls) = refF k (freeG b) (0 : Int) [] ls) ∧ ls.length - RS.i z' < ls.length - RS.i z) ∧ avM (slN ls) (slN ls) ∧ (IntKind.i64 = .i64 ∧ k = k) ∧ avM (slX 2 (freeG b)) (slX 2 (freeG b)) ∧ (nat_lit 1 = 1 ∧ 0 = 0 ∧ List.length (RS.out z') = List.length (RS.out z) + 1) ∧ (IntKind.i64 = .i64 ∧ (z_1 : Int) = (↑(RS.part z') : Int)) ∧ (IntKind.i64 = .i64 ∧ (if Gap.b q20 < q19 + List.getD ls (Int.toNat (↑(RS.i z) : Int))
 Enc.dflt + k then Gap.b q20 else q19 + List.getD ls (Int.toNat (↑(RS.i z) : Int)) Enc.dflt + k) = RS.at_ z') ∧ IntKind.i64 = .i64 ∧ (↑(RS.i z) : Int) + (1 : Int) = (↑(RS.i z') : Int)) ∧ q5 ∧ (3 : TypeId) = 3 ∧ 1 = 1 ∧ List.length (RS.out z') = List.length (RS.out z) + 1 ∧ ∀ (i j : Nat), i < List.length (RS.out z) + 1 → j < 1 → avM (if i < List.length (RS.out z) then AV.v (Value.int .i64 (List.getD (RS.out z) i (0 : Int))) else Sx.rowAt [fun (x : Nat) => AV.v (Value.int .i64 q19)] (i - List.length (RS.out z)) j) (AV.v (Value.int .i64 (List.getD (RS.out z') i (0 : Int))))) False) False) False)
 False) False) False) False))) False) False) False) False) False) False) False) False) False) False) False) False) False) False) False) False) False) False) False) False) False) False) (3 = List.length [AV.xl false 1 (List.length (RS.out z)) fun i j => AV.v (Value.int .i64 (List.getD (RS.out z) (0 + i) (0 : Int))), AV.v (Value.bool true), AV.v (Value.int .i64 (0 : Int))] ∧ ((True ∧ avM (AV.xl false 1 (List.length (RS.out z)) fun i j => AV.v (Value.int .i64 (List.getD (RS.out z) (0 + i) (0 : Int)))) (slN (fitsAt b ls k))) ∧ true = fitsOk b ls k) ∧ IntKind.i64 = .i64 ∧ (0 : Int) = fitsE b ls
 k))))) := by
  dsimp only
  intro hb
  have e0 : (Enc.dflt : Int) = 0 := rfl
  have e1 : (Enc.dflt : Gap) = ⟨0, 0⟩ := rfl
  simp only [slX, slN, avM_refl, true_and, and_true, bsel_true, bsel_false, vc_own, bif_or, bif_and, vc_gdb, vc_db, vc_lt, vc_le, vc_ne, vc_eq, vc_tt, Int.toNat_natCast, Nat.zero_add, Nat.zero_le, Nat.sub_zero, agD_bar, agOk_bar, agD_bar', agOk_bar', agD_cut, agOk_cut, agD_cut', agOk_cut', agD_used, agOk_used, agD_used', agOk_used', int_i, Bool.or_true, cond_true, cond_false, maxI, minI, e0, e1]
  refine ⟨Wk.refl _, fun h => ?_, fun h => ?_⟩
  · have hne : barE b ≠ 0 := fun h2 => h (by unfold freeE; rw [h2]; rfl)
    have e := fitsE_bar (ls := ls) (k := k) hne
    obtain ⟨h1, h2⟩ := fits_bad (b := b) (ls := ls) (k := k) (by rw [e]; decide)
    rw [h1, h2, e]
    exact ⟨rfl, ⟨rfl, rfl⟩, by unfold freeE; rw [bne_iff_ne.2 hne]; rfl⟩
  have hz : barE b = 0 := by
    refine Decidable.byContradiction fun hne => ?_
    unfold freeE at h
    rw [bne_iff_ne.2 hne] at h
    cases h
  have eG : freeG b = partsF 0 b.gs b.l := by unfold freeG; rw [hz]; rfl
  refine bsplit_iff.2 ⟨fun hk => ?_, fun hk => ⟨fun hlen => ?_, fun hlen => ⟨⟨0, ⟨by omega, fun i hi => by omega⟩, rfl⟩, fun z ⟨hz1, hz2⟩ => ⟨fun hlt => ⟨by omega, bsplit_iff.2 ⟨fun ho => ?_, fun ho => ⟨by simp only [inK]; omega, z + 1, ⟨⟨by omega, fun i hi => ?_⟩, by omega⟩, by omega⟩⟩⟩, fun hge => ?_⟩⟩⟩⟩
  · have e := fitsE_kerf (ls := ls) hz hk
    obtain ⟨h1, h2⟩ := fits_bad (b := b) (ls := ls) (k := k) (by rw [e]; decide)
    rw [h1, h2, e]
    exact ⟨rfl, ⟨rfl, rfl⟩, rfl⟩
  · have e := fitsE_long (ls := ls) hz hk (by omega)
    obtain ⟨h1, h2⟩ := fits_bad (b := b) (ls := ls) (k := k) (by rw [e]; decide)
    rw [h1, h2, e]
    exact ⟨rfl, ⟨rfl, rfl⟩, rfl⟩
  · have e : fitsE b ls k = 2 := by
      rw [fitsE_any hz hk (by omega), any_at (i := z) (by omega) (by rw [lenOut_eq]; exact ho)]
      rfl
    obtain ⟨h1, h2⟩ := fits_bad (b := b) (ls := ls) (k := k) (by rw [e]; decide)
    rw [h1, h2, e]
    exact ⟨rfl, ⟨rfl, rfl⟩, rfl⟩
  · by_cases ei : i = z
    · rw [ei, lenOut_eq]; exact ho
    · exact hz2 i (by omega)
  have hany : ls.any lenOut = false := any_none fun i hi => hz2 i (by omega)
  have e : fitsE b ls k = 0 := by rw [fitsE_any hz hk (by omega), hany]; rfl
  have hr := fits_ref e
  obtain ⟨_, k1, k2, _, hls⟩ := fitsE_ok e
  rw [← eG] at hr
  have hG : ∀ i, i < (freeG b).length → 0 ≤ ((freeG b).getD i ⟨0, 0⟩).a ∧ ((freeG b).getD i ⟨0, 0⟩).a < ((freeG b).getD i ⟨0, 0⟩).b ∧ ((freeG b).getD i ⟨0, 0⟩).b ≤ 65536 := by
    rw [eG]; exact fun i hi => parts_at hz hi
  have hL : ∀ i, i < ls.length → 1 ≤ ls.getD i 0 ∧ ls.getD i 0 ≤ 65536 := fun i hi => hls _ (by
    rw [List.getD_eq_getElem?_getD, List.getElem?_eq_getElem hi]
    exact List.getElem_mem hi)
  have hGl : (freeG b).length ≤ 17 := by
    have := parts_len b.l b.gs 0
    have := (barE_gaps hz).2.2.2.1
    rw [eG]; omega
  generalize freeG b = G at *
  refine ⟨⟨⟨0, 0, 0, []⟩, ⟨⟨Nat.zero_le _, rfl, Nat.zero_le _, Int.le_refl _, by simp only; omega, rfl⟩, rfl, rfl, rfl, rfl⟩, rfl⟩, fun s ⟨s1, s2, s3, s4, s5, s6⟩ => ⟨fun hs => ?_, fun hs => ?_⟩⟩
  · have hLi := hL s.i (by omega)
    have hd : ls.drop s.i = ls.getD s.i 0 :: ls.drop (s.i + 1) := getD_drop (by omega)
    refine ⟨⟨s.part, ⟨⟨s3, fun o => rfl⟩, rfl⟩, fun _ _ _ _ => trivial⟩, fun p ⟨p1, p2⟩ => ⟨fun hp => ?_, fun _ => by omega, fun hp => ?_, fun hp => ?_, bsplit_iff.2 ⟨fun hc => ⟨by simp only [inK]; omega, p + 1, ⟨⟨⟨?_, fun o => ?_⟩, ?_⟩, by simp only [Int.natCast_add]; rfl⟩, fun _ _ _ _ => trivial⟩, fun hc => ⟨fun hp => ?_, fun hp => ?_⟩⟩⟩⟩
    · have h8 : (p : Int) < (G.length : Int) := (ltB_iff _ _).1 hp
      omega
    · have h8 : (p : Int) < (G.length : Int) := (ltB_iff _ _).1 hp
      have := hG p (by omega)
      simp only [inK]; omega
    · have h8 : (p : Int) < (G.length : Int) := (ltB_iff _ _).1 hp
      omega
    · rw [Bool.and_eq_true, ltB_iff] at hc; omega
    · rw [Bool.and_eq_true, ltB_iff, ltB_iff] at hc
      rw [← p2 o, getD_drop (l := G) (z := p) (d := ⟨0, 0⟩) (by omega), hd]
      exact (refF_next hc.2).symm
    · rw [Bool.and_eq_true, ltB_iff] at hc; omega
    · have h7 := p2 s.out
      rw [show p = G.length by omega, List.drop_length, hd, refF_none, ← hd, s6, hr] at h7
      have hok : fitsOk b ls k = false := by
        cases hc : fitsOk b ls k with
        | false => rfl
        | true => rw [hc] at h7; cases h7
      rw [hok, e, show fitsAt b ls k = [] by unfold fitsAt; rw [hok]; rfl]
      exact ⟨rfl, ⟨rfl, rfl⟩, rfl⟩
    · have hp' : p < G.length := by omega
      have hg := hG p hp'
      have hc' : ¬ (G.getD p ⟨0, 0⟩).b < max s.at_ (G.getD p ⟨0, 0⟩).a + ls.getD s.i 0 := fun hh => by
        rw [(ltB_iff _ _).2 hh, (ltB_iff _ _).2 (show (p : Int) < G.length by omega)] at hc
        cases hc
      have h7 := p2 s.out
      rw [getD_drop (l := G) (z := p) (d := ⟨0, 0⟩) hp', hd, refF_in hc', ← hd, s6] at h7
      refine ⟨by omega, by omega, by omega, by simp only [inK]; omega, by simp only [inK]; omega, by omega, by simp only [inK]; omega,
        ⟨s.i + 1, p, min (max s.at_ (G.getD p ⟨0, 0⟩).a + ls.getD s.i 0 + k) (G.getD p ⟨0, 0⟩).b, s.out ++ [max s.at_ (G.getD p ⟨0, 0⟩).a]⟩,
        ⟨⟨⟨by simp only; omega, by simp [s2], by simp only; omega, by simp only; omega, by simp only; omega, ?_⟩, by simp only; omega⟩, by simp, rfl, rfl, by simp⟩, by simp, fun i j hi hj => snoc_enc s.out _ _ 1 (fun j hj => rfl) i j hi hj⟩
      rw [getD_drop (l := G) (z := p) (d := ⟨0, 0⟩) hp']
      exact h7
  · rw [show s.i = ls.length by omega, List.drop_length, refF_nil, hr] at s6
    cases hc : fitsOk b ls k with
    | false => rw [hc] at s6; cases s6
    | true =>
      rw [hc] at s6
      have h9 : s.out = fitsAt b ls k := Option.some.inj s6
      rw [h9]
      refine ⟨rfl, ⟨avM_refl _, rfl⟩, e.symm⟩
def fitsG_t : List AV → Option (List Cond × AV)
  | [x, y, .v (.int .i64 k)] => some ([.b (agOk Bar x), .b (slOk Int y)], .tup 3 (listFn [slE (fitsAt (agD x) (slD y) k), .b (fitsOk (agD x) (slD y) k), .i (fitsE (agD x) (slD y) k)]))
  | _ => none
theorem reffits_T : PureT Tryz.prog [] 111 fitsG_t := by
  intro xs ps r h hp
  unfold fitsG_t at h
  split at h
  · rename_i x y k
    cases h
    exact weaken (ys := [_, _, _]) ⟨agE_sound (hp _ List.mem_cons_self), slE_sound (hp _ (List.mem_cons_of_mem _ List.mem_cons_self)), avM_refl _, trivial⟩
      (pure_of_vc mixed (TbSound.plus (TbSound.plus tb0_sound outside3_T) (inst_T (reffree_C (agD x)))) (Eq.mp (by kernel_rfl) (reffits_vc (agD x) (slD y) k) : vcFn Tryz.prog (Tff (agD x)) 111 (reffits_an (agD x) (slD y) k) [agE (agD x), slE (slD y), .i k] (.tup 3 (listFn [slE (fitsAt (agD x) (slD y) k), .b (fitsOk (agD x) (slD y) k), .i (fitsE (agD x) (slD y) k)]))))
  · cases h
end Go.Tz
