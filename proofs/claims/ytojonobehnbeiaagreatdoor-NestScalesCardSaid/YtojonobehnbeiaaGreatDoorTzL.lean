/- stock.check, stock.Check, and kingpostref43's. -/
import Derived.Test.YtojonobehnbeiaaGreatDoorTzG
set_option linter.unusedSimpArgs false
namespace Go.Tz
open Go Go.Sx Go.Proofs
set_option maxRecDepth 100000
abbrev slX (n : Nat) {α : Type} [Enc α] (l : List α) : AV := AV.xl false n l.length fun i j => Enc.enc (l.getD i Enc.dflt) j
abbrev slN (l : List Int) : AV := AV.xl false 1 l.length fun i j => AV.v (Value.int IntKind.i64 (l.getD i Enc.dflt))
class LawEnc (α : Type) [Enc α] : Prop where
  dec : ∀ a : α, Enc.dec (Enc.enc a) = a
  ok : ∀ a : α, Enc.ok (α := α) (Enc.enc a) = true
theorem slD_slE {α : Type} [Enc α] [LawEnc α] (l : List α) : slD (slE l) = l := by
  show listOf l.length (fun i => Enc.dec (Enc.enc (l.getD i Enc.dflt))) = l
  simp only [LawEnc.dec]
  exact listOf_getD l _
theorem allN_of {f : Nat → Bool} : ∀ {n : Nat}, (∀ i, i < n → f i = true) → allN f n = true
  | 0, _ => rfl
  | n + 1, h => by simp only [allN, Bool.and_eq_true]; exact ⟨allN_of fun i hi => h i (by omega), h n (by omega)⟩
theorem slOk_slE {α : Type} [Enc α] [LawEnc α] (l : List α) : slOk α (slE l) = true := by
  show (Nat.beq (Enc.n α) (Enc.n α) && allN (fun i => Enc.ok (α := α) (Enc.enc (l.getD i Enc.dflt))) l.length) = true
  rw [Bool.and_eq_true]
  exact ⟨Nat.beq_refl _, allN_of fun i _ => LawEnc.ok _⟩
theorem agD_agE {α : Type} [Enc α] [LawEnc α] (a : α) : agD (agE a) = a := LawEnc.dec a
theorem agOk_agE {α : Type} [Enc α] [LawEnc α] (a : α) : agOk α (agE a) = true := by
  show (Nat.beq (Enc.n α) (Enc.n α) && Enc.ok (α := α) (Enc.enc a)) = true
  rw [Bool.and_eq_true]
  exact ⟨Nat.beq_refl _, LawEnc.ok _⟩
instance : LawEnc Int := ⟨fun _ => rfl, fun _ => rfl⟩
instance : LawEnc Gap := ⟨fun _ => rfl, fun _ => rfl⟩
instance : LawEnc Cut := ⟨fun a => by
  show (⟨a.w, a.d, a.l, slD (slE a.ms)⟩ : Cut) = a
  rw [slD_slE], fun a => slOk_slE a.ms⟩
instance : LawEnc Bar := ⟨fun a => by
  show (⟨a.w, a.d, a.l, a.n, a.c, slD (slE a.gs)⟩ : Bar) = a
  rw [slD_slE], fun a => slOk_slE a.gs⟩
instance : LawEnc Used := ⟨fun a => by
  show (⟨a.bar, slD (slE a.ps), slD (slE a.at_)⟩ : Used) = a
  rw [slD_slE, slD_slE], fun a => by
  show (true && slOk Int (slE a.ps) && slOk Int (slE a.at_)) = true
  rw [slOk_slE, slOk_slE]; rfl⟩
theorem int_i (k : IntKind) (n : Int) : AV.int (.v (.int k n)) = n := rfl
theorem ltB_nat (z : Nat) : ltB 0 (z : Int) = Nat.blt 0 z := by rw [Bool.eq_iff_iff, ltB_iff, blt_iff]; omega
theorem pred_nat (z : Nat) : ((z : Int) - 1).toNat = z - 1 := by omega
theorem vc_tt {A B : Prop} : bsplit true A B ↔ A := by simp [bsplit_iff]
theorem agD_bar (b : Bar) : agD (.agg 6 fun i => Enc.enc b i) = b := agD_agE b
theorem agOk_bar (b : Bar) : agOk Bar (.agg 6 fun i => Enc.enc b i) = true := agOk_agE b
theorem agD_bar' (b : Bar) (g : Nat → AV) : agD (.agg 6 fun i => if i < 6 then Enc.enc b i else g i) = b := LawEnc.dec b
theorem agOk_bar' (b : Bar) (g : Nat → AV) : agOk Bar (.agg 6 fun i => if i < 6 then Enc.enc b i else g i) = true := agOk_agE b
theorem agD_cut (b : Cut) : agD (.agg 4 fun i => Enc.enc b i) = b := agD_agE b
theorem agOk_cut (b : Cut) : agOk Cut (.agg 4 fun i => Enc.enc b i) = true := agOk_agE b
theorem agD_cut' (b : Cut) (g : Nat → AV) : agD (.agg 4 fun i => if i < 4 then Enc.enc b i else g i) = b := LawEnc.dec b
theorem agOk_cut' (b : Cut) (g : Nat → AV) : agOk Cut (.agg 4 fun i => if i < 4 then Enc.enc b i else g i) = true := agOk_agE b
theorem agD_used (b : Used) : agD (.agg 3 fun i => Enc.enc b i) = b := agD_agE b
theorem agOk_used (b : Used) : agOk Used (.agg 3 fun i => Enc.enc b i) = true := agOk_agE b
theorem agD_used' (b : Used) (g : Nat → AV) : agD (.agg 3 fun i => if i < 3 then Enc.enc b i else g i) = b := LawEnc.dec b
theorem agOk_used' (b : Used) (g : Nat → AV) : agOk Used (.agg 3 fun i => if i < 3 then Enc.enc b i else g i) = true := agOk_agE b
def between (n a b : Int) : Bool := leB a n && leB n b
def gapsFrom (L : Int) : Option Gap → List Gap → Int
  | _, [] => 0
  | p, g :: gs =>
    bif ltB g.a 0 || ltB L g.b || leB g.b g.a then 2
    else bif (match p with | some q => leB g.a q.b | none => false) then 10
    else gapsFrom L (some g) gs
def barE (b : Bar) : Int :=
  bif !between b.w 1 1000 || !between b.d 1 1000 || !between b.l 1 65536 || !between b.n 0 4096 || !between b.c 0 1073741824 then 2
  else bif Nat.blt 16 b.gs.length then 4
  else gapsFrom b.l none b.gs
def prevG (gs : List Gap) : Nat → Option Gap
  | 0 => none
  | z + 1 => some (gs.getD z ⟨0, 0⟩)
def check_an (b : Bar) : Ann :=
  .two .auto (.two .auto (.two .auto (.two (.two .auto (.one (.loop Nat (fun σ z => [(1, σ.tm 1), (38, σ.tm 38), (39, σ.tm 39), (40, .i z)]) (fun σ z => []) 0 (fun σ z => z ≤ b.gs.length ∧ gapsFrom b.l (prevG b.gs z) (b.gs.drop z) = gapsFrom b.l none b.gs) (fun σ z => b.gs.length - z) .auto))) .auto)))
def Tck : Tb := T0.plus 94 between_t
theorem Tck_sound : TbSound Tryz.prog Tck := TbSound.plus tb0_sound between_T
theorem gapsFrom_step {L : Int} {gs : List Gap} {z : Nat} (hz : z < gs.length) : gapsFrom L (prevG gs z) (gs.drop z) =
    bif ltB (gs.getD z Enc.dflt).a 0 || ltB L (gs.getD z Enc.dflt).b || leB (gs.getD z Enc.dflt).b (gs.getD z Enc.dflt).a then 2
    else bif ltB 0 z && leB (gs.getD z Enc.dflt).a (gs.getD ((z : Int) - 1).toNat Enc.dflt).b then 10
    else gapsFrom L (prevG gs (z + 1)) (gs.drop (z + 1)) := by
  rw [List.drop_eq_getElem_cons hz]
  have e : gs[z] = gs.getD z Enc.dflt := by simp [List.getD_eq_getElem?_getD, hz]
  rw [e]
  cases z with
  | zero => rfl
  | succ z =>
    rw [show (((z + 1 : Nat) : Int) - 1).toNat = z by omega]
    rfl
theorem check_vc (b : Bar) :
 let q2 := (leB (1 : Int) (Bar.w b) && leB (Bar.w b) (1000 : Int)); let q1 := (!bsel false !q2 || bsel false !q2); let q5 := (leB (1 : Int) (Bar.d b) && leB (Bar.d b) (1000 : Int)); let q4 := (bif !q2 then true else !q5); let q3 := (!bsel false q4 || bsel false q4); let q8 := (leB (1 : Int) (Bar.l b) && leB (Bar.l b) (65536 : Int)); let q7 := (bif bif !q2 then true else !q5 then true else !q8); let q6 := (!bsel false q7 || bsel false q7); let q11 := (leB (0 : Int) (Bar.n b) && leB (Bar.n b) (4096 : Int)); let q10 := (bif bif bif !q2 then true else !q5 then true else !q8 then true else !q11); let
 q9 := (!bsel false q10 || bsel false q10); let q12 := (IntKind.i64 = .i64 ∧ (2 : Int) = barE b); let q13 := (IntKind.i64 = .i64 ∧ (↑(List.length (Bar.gs b)) : Int) = (↑(List.length (Bar.gs b)) : Int)); let q14 := (((((IntKind.i64 = .i64 ∧ Bar.w b = Bar.w b) ∧ IntKind.i64 = .i64 ∧ Bar.d b = Bar.d b) ∧ IntKind.i64 = .i64 ∧ Bar.l b = Bar.l b) ∧ IntKind.i64 = .i64 ∧ Bar.n b = Bar.n b) ∧ IntKind.i64 = .i64 ∧ Bar.c b = Bar.c b); let q23 := (AV.xl false 2 (List.length (Bar.gs b)) fun i j => Enc.enc (List.getD (Bar.gs b) i Enc.dflt) j); bndL [AV.agg 6 (Enc.enc b)] → bsplit q1 (bsplit q1 (bsplit q1
 (bsplit (!!!q2 || bsel false !q2) (bsplit q3 (bsplit q3 (bsplit q3 (bsplit ((!!bif !q2 then true else !q5) || bsel false q4) (bsplit q6 (bsplit q6 (bsplit q6 (bsplit ((!!bif bif !q2 then true else !q5 then true else !q8) || bsel false q7) (bsplit q9 (bsplit q9 (bsplit q9 (bsplit ((!!bif bif bif !q2 then true else !q5 then true else !q8 then true else !q11) || bsel false q10) (bsplit (bif bif bif bif !q2 then true else !q5 then true else !q8 then true else !q11 then true else !(leB (0 : Int) (Bar.c b) && leB (Bar.c b) (1073741824 : Int))) q12 (bsplit (ltB (16 : Int) (↑(List.length (Bar.gs b)) :
 Int)) (IntKind.i64 = .i64 ∧ (4 : Int) = barE b) ((∃ (z : Nat), ((z ≤ List.length (Bar.gs b) ∧ gapsFrom (Bar.l b) (prevG (Bar.gs b) z) (List.drop z (Bar.gs b)) = gapsFrom (Bar.l b) (Non Gap) (Bar.gs b)) ∧ (nat_lit 0 = 0 ∧ 0 = 0) ∧ avM (slX 2 (Bar.gs b)) (slX 2 (Bar.gs b)) ∧ q13 ∧ IntKind.i64 = .i64 ∧ (0 : Int) = (z : Int)) ∧ 26 = 26 ∧ 6 = 6 ∧ q14 ∧ avM (slX 2 (Bar.gs b)) (slX 2 (Bar.gs b))) ∧ ∀ (z : Nat), let q18 := (List.getD (Bar.gs b) (Int.toNat (z : Int)) Enc.dflt); let q17 := (Gap.a q18); let q16 := (ltB q17 (0 : Int)); let q15 := (!bsel false q16 || bsel false q16); let q21 := (Gap.b q18);
 let q20 := (bif ltB q17 (0 : Int) then true else ltB (Bar.l b) q21); let q19 := (!bsel false q20 || bsel false q20); let q22 := (!bsel true (ltB (0 : Int) (z : Int)) || bsel true (ltB (0 : Int) (z : Int))); z ≤ List.length (Bar.gs b) ∧ gapsFrom (Bar.l b) (prevG (Bar.gs b) z) (List.drop z (Bar.gs b)) = gapsFrom (Bar.l b) (Non Gap) (Bar.gs b) → bsplit (ltB (z : Int) (↑(List.length (Bar.gs b)) : Int)) (bsplit (DB.db ((0 : Int) ≤ (z : Int) ∧ (z : Int) < (↑(List.length (Bar.gs b)) : Int))) (bsplit q15 (bsplit q15 (bsplit q15 (bsplit q15 (bsplit (!!ltB q17 (0 : Int) || bsel false q16) (bsplit q19
 (bsplit q19 (bsplit q19 (bsplit q19 (bsplit ((!!bif ltB q17 (0 : Int) then true else ltB (Bar.l b) q21) || bsel false q20) (bsplit (bif bif ltB q17 (0 : Int) then true else ltB (Bar.l b) q21 then true else leB q21 q17) q12 (bsplit q22 (bsplit q22 (bsplit q22 (bsplit (!bsel true (ltB (0 : Int) (z : Int)) || DB.db (inK .i64 ((z : Int) - (1 : Int)))) (bsplit q22 (bsplit q22 (bsplit (!bsel true (ltB (0 : Int) (z : Int)) || DB.db ((0 : Int) ≤ (z : Int) - (1 : Int) ∧ (z : Int) - (1 : Int) < (↑(List.length (Bar.gs b)) : Int))) (bsplit q22 (bsplit q22 (bsplit q22 (bsplit q22 (bsplit (!ltB (0 : Int) (z
 : Int) || bsel true (ltB (0 : Int) (z : Int))) (bsplit (bif ltB (0 : Int) (z : Int) then leB q17 (Gap.b (List.getD (Bar.gs b) (Int.toNat ((z : Int) - (1 : Int))) Enc.dflt)) else false) (IntKind.i64 = .i64 ∧ (10 : Int) = barE b) (bsplit (DB.db (inK .i64 ((z : Int) + (1 : Int)))) (∃ (z' : Nat), (((z' ≤ List.length (Bar.gs b) ∧ gapsFrom (Bar.l b) (prevG (Bar.gs b) z') (List.drop z' (Bar.gs b)) = gapsFrom (Bar.l b) (Non Gap) (Bar.gs b)) ∧ List.length (Bar.gs b) - z' < List.length (Bar.gs b) - z) ∧ (nat_lit 0 = 0 ∧ 0 = 0) ∧ avM q23 q23 ∧ q13 ∧ IntKind.i64 = .i64 ∧ (z : Int) + (1 : Int) = (z' : Int))
 ∧ 26 = 26 ∧ 6 = 6 ∧ q14 ∧ avM q23 q23) False)) False) False) False) False) False) False) False) False) False) False) False) False)) False) False) False) False) False) False) False) False) False) False) False) (IntKind.i64 = .i64 ∧ (0 : Int) = barE b)))) False) False) False) False) False) False) False) False) False) False) False) False) False) False) False) False := by
  dsimp only
  intro hb
  have hlen : b.gs.length ≤ 9223372036854775807 := (allB_at hb 5 (by omega)).1
  simp only [slX, slN, avM_refl, true_and, and_true, bsel_true, bsel_false, vc_own, bif_or, bif_and, vc_gdb, vc_db, vc_lt, Int.toNat_natCast]
  rw [show barE b = bif !between b.w 1 1000 || !between b.d 1 1000 || !between b.l 1 65536 || !between b.n 0 4096 || !between b.c 0 1073741824 then 2
    else bif Nat.blt 16 b.gs.length then 4 else gapsFrom b.l none b.gs from rfl]
  refine bsplit_iff.2 ⟨fun h => ?_, fun h => ⟨fun h16 => ?_, fun h16 => ⟨⟨0, by simp [prevG]⟩, ?_⟩⟩⟩
  · unfold between; rw [h]; rfl
  · unfold between; rw [h, (blt_iff _ _).2 (by omega)]; rfl
  · have h16' : Nat.blt 16 b.gs.length = false := by rw [Bool.eq_false_iff]; intro h; have := (blt_iff _ _).1 h; omega
    unfold between
    rw [h, h16']
    simp only [cond_false]
    rintro z ⟨hz, hinv⟩
    refine ⟨fun hlt => ⟨⟨by omega, by omega⟩, ?_⟩, fun hge => ?_⟩
    · rw [gapsFrom_step (by omega)] at hinv
      refine bsplit_iff.2 ⟨fun h1 => ?_, fun h1 => ⟨fun h0 => ⟨by omega, by omega⟩, fun h0 => ?_, bsplit_iff.2 ⟨fun h2 => ?_, fun h2 => ⟨?_, z + 1, ⟨⟨by omega, ?_⟩, by omega⟩, by omega⟩⟩⟩⟩
      · rw [h1] at hinv; exact hinv
      · have := (ltB_iff _ _).1 h0; omega
      · rw [h1, h2] at hinv; exact hinv
      · simp only [inK]; omega
      · rw [h1, h2] at hinv; exact hinv
    · rw [show z = b.gs.length by omega, List.drop_length] at hinv
      exact hinv
def check_t : List AV → Option (List Cond × AV)
  | [x] => some ([.b (agOk Bar x)], .i (barE (agD x)))
  | _ => none
theorem check_T : PureT Tryz.prog [] 71 check_t := by
  intro xs ps r h hp
  unfold check_t at h
  split at h
  · rename_i x
    cases h
    exact weaken (ys := [_]) ⟨agE_sound (hp _ List.mem_cons_self), trivial⟩ (pure_of_vc mixed Tck_sound (Eq.mp (by kernel_rfl) (check_vc (agD x)) : vcFn Tryz.prog Tck 71 (check_an (agD x)) [agE (agD x)] (.i (barE (agD x)))))
  · cases h
def firstE {α : Type} (f : α → Int) : List α → Int
  | [] => 0
  | a :: l => bif f a != 0 then f a else firstE f l
def barsE (l : List Bar) : Int := bif Nat.blt 64 l.length then 4 else firstE barE l
theorem firstE_step {α : Type} {f : α → Int} {l : List α} {d : α} {z : Nat} (h : z < l.length) : firstE f (l.drop z) = bif f (l.getD z d) != 0 then f (l.getD z d) else firstE f (l.drop (z + 1)) := by
  rw [getD_drop (d := d) h]; rfl
def stockC_an (l : List Bar) : Ann :=
  .two .auto (.two .auto (.two (.two .auto (.one (.loop Nat (fun σ z => [(9, σ.tm 9), (10, σ.tm 10), (11, .i z)]) (fun σ z => []) 0 (fun σ z => z ≤ l.length ∧ firstE barE (l.drop z) = firstE barE l) (fun σ z => l.length - z) .auto))) .auto))
def Tsc : Tb := T0.plus 71 check_t
theorem Tsc_sound : TbSound Tryz.prog Tsc := TbSound.plus tb0_sound check_T
theorem stockC_vc (l : List Bar) :
 let q1 := (AV.xl false 6 (l.length) fun i j => Enc.enc (List.getD l i Enc.dflt) j); let q2 := (IntKind.i64 = .i64 ∧ (l.length : Int) = (l.length : Int)); bndL [AV.xl false 6 (l.length) fun i j => Enc.enc (List.getD l i Enc.dflt) j] → bsplit (ltB (64 : Int) (l.length : Int)) (IntKind.i64 = .i64 ∧ (4 : Int) = barsE l) ((∃ (z : Nat), ((z ≤ l.length ∧ firstE barE (List.drop z l) = firstE barE l) ∧ avM q1 q1 ∧ q2 ∧ IntKind.i64 = .i64 ∧ (0 : Int) = (z : Int)) ∧ True) ∧ ∀ (z : Nat), let q3 := (AV.agg 6 fun (i : Nat) => if 0 ≤ 0 + i ∧ 0 + i < 6 then (fun i j => Enc.enc (List.getD l i Enc.dflt) j)
 (Int.toNat (z : Int)) (0 + (0 + i - 0)) else zcell (Value.agg #[Value.int .i64 (0 : Int), Value.int .i64 (0 : Int), Value.int .i64 (0 : Int), Value.int .i64 (0 : Int), Value.int .i64 (0 : Int), Value.slice (Non Addr) 0 0]) (0 + i)); let q4 := (agD q3); z ≤ l.length ∧ firstE barE (List.drop z l) = firstE barE l → bsplit (ltB (z : Int) (l.length : Int)) (bsplit (DB.db ((0 : Int) ≤ (z : Int) ∧ (z : Int) < (l.length : Int))) (bsplit (agOk Bar q3) (bsplit (barE q4 != (0 : Int)) (IntKind.i64 = .i64 ∧ barE q4 = barsE l) (bsplit (DB.db (inK .i64 ((z : Int) + (1 : Int)))) (∃ (z' : Nat), (((z' ≤ l.length
 ∧ firstE barE (List.drop z' l) = firstE barE l) ∧ l.length - z' < l.length - z) ∧ avM q1 q1 ∧ q2 ∧ IntKind.i64 = .i64 ∧ (z : Int) + (1 : Int) = (z' : Int)) ∧ True) False)) False) False) (IntKind.i64 = .i64 ∧ (0 : Int) = barsE l)) := by
  dsimp only
  intro hb
  have hl : l.length ≤ 9223372036854775807 := hb.1
  simp only [avM_refl, true_and, and_true, vc_lt, vc_db, vc_tt, vc_ne, Nat.zero_add, Nat.zero_le, Nat.sub_zero, Int.toNat_natCast, agD_bar, agOk_bar, agD_bar', agOk_bar']
  refine ⟨fun h => ?_, fun h => ⟨⟨0, by simp⟩, fun z ⟨h1, h2⟩ => ⟨fun hz => ⟨⟨by omega, by omega⟩, fun hne => ?_, fun he => ⟨by simp only [inK]; omega, z + 1, ⟨⟨by omega, ?_⟩, by omega⟩, by omega⟩⟩, fun hz => ?_⟩⟩⟩
  · unfold barsE; rw [(blt_iff _ _).2 (by omega)]; rfl
  · rw [firstE_step (d := Enc.dflt) (by omega), bne_iff_ne.2 hne] at h2
    unfold barsE
    rw [show Nat.blt 64 l.length = false by rw [Bool.eq_false_iff]; intro h; have := (blt_iff _ _).1 h; omega]
    exact h2
  · rw [firstE_step (d := Enc.dflt) (by omega), he] at h2
    exact h2
  · rw [show z = l.length by omega, List.drop_length] at h2
    unfold barsE
    rw [show Nat.blt 64 l.length = false by rw [Bool.eq_false_iff]; intro h; have := (blt_iff _ _).1 h; omega]
    exact h2
theorem outside3_vc (n a b : Int) : bndL [AV.v (Value.int .i64 n), AV.v (Value.int .i64 a), AV.v (Value.int .i64 b)] → bsplit (!bsel false (ltB n a) || bsel false (ltB n a)) (bsplit (!bsel false (ltB n a) || bsel false (ltB n a)) (bsplit (!!ltB n a || bsel false (ltB n a)) ((bif ltB n a then true else ltB b n) = (ltB n a || ltB b n)) False) False) False := by
  intro _
  simp only [bsel_false, vc_grd, ltB_eq]; grind
theorem outside3_T : PureT Tryz.prog [] 67 outside3_t := by
  intro xs ps r h _
  unfold outside3_t at h
  split at h
  · rename_i n a b
    cases h
    exact pure_of_vc mixed tb0_sound (Eq.mp (by kernel_rfl) (outside3_vc n a b) : vcFn Tryz.prog T0 67 .auto [.i n, .i a, .i b] (.b (ltB n a || ltB b n)))
  · cases h
def Trb : Tb := T0.plus 67 outside3_t
theorem out_btw (n a b : Int) : (!(leB a n && leB n b)) = (ltB n a || ltB b n) := by
  simp only [leB_eq, ltB_eq, Bool.not_and, ← decide_not, Int.not_le]
theorem or_swap (x y z : Bool) : (x || y || z) = (x || z || y) := by cases x <;> cases y <;> cases z <;> rfl
theorem Trb_sound : TbSound Tryz.prog Trb := TbSound.plus tb0_sound outside3_T
def refbar_an (b : Bar) : Ann :=
  .two .auto (.two .auto (.two .auto (.two (.two .auto (.one (.loop Nat (fun σ z => [(1, σ.tm 1), (3, .i z)]) (fun σ z => []) 0 (fun σ z => z ≤ b.gs.length ∧ gapsFrom b.l (prevG b.gs z) (b.gs.drop z) = gapsFrom b.l none b.gs) (fun σ z => b.gs.length - z) .auto))) .auto)))
theorem refbar_vc (b : Bar) :
 let q2 := (ltB (Bar.w b) (1 : Int) || ltB (1000 : Int) (Bar.w b)); let q1 := (!bsel false q2 || bsel false q2); let q4 := (bif ltB (Bar.w b) (1 : Int) || ltB (1000 : Int) (Bar.w b) then true else ltB (Bar.d b) (1 : Int) || ltB (1000 : Int) (Bar.d b)); let q3 := (!bsel false q4 || bsel false q4); let q6 := (bif bif ltB (Bar.w b) (1 : Int) || ltB (1000 : Int) (Bar.w b) then true else ltB (Bar.d b) (1 : Int) || ltB (1000 : Int) (Bar.d b) then true else ltB (Bar.l b) (1 : Int) || ltB (65536 : Int) (Bar.l b)); let q5 := (!bsel false q6 || bsel false q6); let q8 := (bif bif bif ltB (Bar.w b) (1 :
 Int) || ltB (1000 : Int) (Bar.w b) then true else ltB (Bar.d b) (1 : Int) || ltB (1000 : Int) (Bar.d b) then true else ltB (Bar.l b) (1 : Int) || ltB (65536 : Int) (Bar.l b) then true else ltB (Bar.n b) (0 : Int) || ltB (4096 : Int) (Bar.n b)); let q7 := (!bsel false q8 || bsel false q8); let q9 := (IntKind.i64 = .i64 ∧ (2 : Int) = barE b); let q10 := (((((IntKind.i64 = .i64 ∧ Bar.w b = Bar.w b) ∧ IntKind.i64 = .i64 ∧ Bar.d b = Bar.d b) ∧ IntKind.i64 = .i64 ∧ Bar.l b = Bar.l b) ∧ IntKind.i64 = .i64 ∧ Bar.n b = Bar.n b) ∧ IntKind.i64 = .i64 ∧ Bar.c b = Bar.c b); bndL [AV.agg 6 (Enc.enc b)] →
 bsplit q1 (bsplit q1 (bsplit (!!q2 || bsel false q2) (bsplit q3 (bsplit q3 (bsplit ((!!bif ltB (Bar.w b) (1 : Int) || ltB (1000 : Int) (Bar.w b) then true else ltB (Bar.d b) (1 : Int) || ltB (1000 : Int) (Bar.d b)) || bsel false q4) (bsplit q5 (bsplit q5 (bsplit ((!!bif bif ltB (Bar.w b) (1 : Int) || ltB (1000 : Int) (Bar.w b) then true else ltB (Bar.d b) (1 : Int) || ltB (1000 : Int) (Bar.d b) then true else ltB (Bar.l b) (1 : Int) || ltB (65536 : Int) (Bar.l b)) || bsel false q6) (bsplit q7 (bsplit q7 (bsplit ((!!bif bif bif ltB (Bar.w b) (1 : Int) || ltB (1000 : Int) (Bar.w b) then true else
 ltB (Bar.d b) (1 : Int) || ltB (1000 : Int) (Bar.d b) then true else ltB (Bar.l b) (1 : Int) || ltB (65536 : Int) (Bar.l b) then true else ltB (Bar.n b) (0 : Int) || ltB (4096 : Int) (Bar.n b)) || bsel false q8) (bsplit (bif bif bif bif ltB (Bar.w b) (1 : Int) || ltB (1000 : Int) (Bar.w b) then true else ltB (Bar.d b) (1 : Int) || ltB (1000 : Int) (Bar.d b) then true else ltB (Bar.l b) (1 : Int) || ltB (65536 : Int) (Bar.l b) then true else ltB (Bar.n b) (0 : Int) || ltB (4096 : Int) (Bar.n b) then true else ltB (Bar.c b) (0 : Int) || ltB (1073741824 : Int) (Bar.c b)) q9 (bsplit (ltB (16 : Int)
 (↑(List.length (Bar.gs b)) : Int)) (IntKind.i64 = .i64 ∧ (4 : Int) = barE b) ((∃ (z : Nat), ((z ≤ List.length (Bar.gs b) ∧ gapsFrom (Bar.l b) (prevG (Bar.gs b) z) (List.drop z (Bar.gs b)) = gapsFrom (Bar.l b) (Non Gap) (Bar.gs b)) ∧ (nat_lit 0 = 0 ∧ 0 = 0) ∧ IntKind.i64 = .i64 ∧ (0 : Int) = (z : Int)) ∧ 26 = 26 ∧ 6 = 6 ∧ q10 ∧ avM (slX 2 (Bar.gs b)) (slX 2 (Bar.gs b))) ∧ ∀ (z : Nat), let q14 := (List.getD (Bar.gs b) (Int.toNat (z : Int)) Enc.dflt); let q13 := (Gap.a q14); let q12 := (ltB q13 (0 : Int)); let q11 := (!bsel false q12 || bsel false q12); let q17 := (Gap.b q14); let q16 := (bif ltB
 q13 (0 : Int) then true else leB q17 q13); let q15 := (!bsel false q16 || bsel false q16); let q18 := (!bsel true (ltB (0 : Int) (z : Int)) || bsel true (ltB (0 : Int) (z : Int))); z ≤ List.length (Bar.gs b) ∧ gapsFrom (Bar.l b) (prevG (Bar.gs b) z) (List.drop z (Bar.gs b)) = gapsFrom (Bar.l b) (Non Gap) (Bar.gs b) → bsplit (ltB (z : Int) (↑(List.length (Bar.gs b)) : Int)) (bsplit (DB.db ((0 : Int) ≤ (z : Int) ∧ (z : Int) < (↑(List.length (Bar.gs b)) : Int))) (bsplit q11 (bsplit q11 (bsplit q11 (bsplit q11 (bsplit (!!ltB q13 (0 : Int) || bsel false q12) (bsplit q15 (bsplit q15 (bsplit q15
 (bsplit q15 (bsplit ((!!bif ltB q13 (0 : Int) then true else leB q17 q13) || bsel false q16) (bsplit (bif bif ltB q13 (0 : Int) then true else leB q17 q13 then true else ltB (Bar.l b) q17) q9 (bsplit q18 (bsplit q18 (bsplit q18 (bsplit (!bsel true (ltB (0 : Int) (z : Int)) || DB.db (inK .i64 ((z : Int) - (1 : Int)))) (bsplit q18 (bsplit q18 (bsplit (!bsel true (ltB (0 : Int) (z : Int)) || DB.db ((0 : Int) ≤ (z : Int) - (1 : Int) ∧ (z : Int) - (1 : Int) < (↑(List.length (Bar.gs b)) : Int))) (bsplit q18 (bsplit q18 (bsplit q18 (bsplit q18 (bsplit (!ltB (0 : Int) (z : Int) || bsel true (ltB (0 :
 Int) (z : Int))) (bsplit (bif ltB (0 : Int) (z : Int) then leB q13 (Gap.b (List.getD (Bar.gs b) (Int.toNat ((z : Int) - (1 : Int))) Enc.dflt)) else false) (IntKind.i64 = .i64 ∧ (10 : Int) = barE b) (bsplit (DB.db (inK .i64 ((z : Int) + (1 : Int)))) (∃ (z' : Nat), (((z' ≤ List.length (Bar.gs b) ∧ gapsFrom (Bar.l b) (prevG (Bar.gs b) z') (List.drop z' (Bar.gs b)) = gapsFrom (Bar.l b) (Non Gap) (Bar.gs b)) ∧ List.length (Bar.gs b) - z' < List.length (Bar.gs b) - z) ∧ (nat_lit 0 = 0 ∧ 0 = 0) ∧ IntKind.i64 = .i64 ∧ (z : Int) + (1 : Int) = (z' : Int)) ∧ 26 = 26 ∧ 6 = 6 ∧ q10 ∧ avM (slX 2 (Bar.gs b))
 (slX 2 (Bar.gs b))) False)) False) False) False) False) False) False) False) False) False) False) False) False)) False) False) False) False) False) False) False) False) False) False) False) (IntKind.i64 = .i64 ∧ (0 : Int) = barE b)))) False) False) False) False) False) False) False) False) False) False) False) False := by
  dsimp only
  intro hb
  have hlen : b.gs.length ≤ 9223372036854775807 := (allB_at hb 5 (by omega)).1
  simp only [slX, slN, avM_refl, true_and, and_true, bsel_true, bsel_false, vc_own, bif_or, bif_and, vc_gdb, vc_db, vc_lt, Int.toNat_natCast]
  rw [show barE b = bif !between b.w 1 1000 || !between b.d 1 1000 || !between b.l 1 65536 || !between b.n 0 4096 || !between b.c 0 1073741824 then 2
    else bif Nat.blt 16 b.gs.length then 4 else gapsFrom b.l none b.gs from rfl]
  unfold between
  simp only [out_btw]
  refine bsplit_iff.2 ⟨fun h => ?_, fun h => ⟨fun h16 => ?_, fun h16 => ⟨⟨0, by simp [prevG]⟩, ?_⟩⟩⟩
  · rw [h]; rfl
  · rw [h, (blt_iff _ _).2 (by omega)]; rfl
  · have h16' : Nat.blt 16 b.gs.length = false := by rw [Bool.eq_false_iff]; intro h; have := (blt_iff _ _).1 h; omega
    rw [h, h16']
    simp only [cond_false]
    rintro z ⟨hz, hinv⟩
    refine ⟨fun hlt => ⟨⟨by omega, by omega⟩, ?_⟩, fun hge => ?_⟩
    · rw [gapsFrom_step (by omega)] at hinv
      rw [or_swap]
      refine bsplit_iff.2 ⟨fun h1 => ?_, fun h1 => ⟨fun h0 => ⟨by omega, by omega⟩, fun h0 => ?_, bsplit_iff.2 ⟨fun h2 => ?_, fun h2 => ⟨?_, z + 1, ⟨⟨by omega, ?_⟩, by omega⟩, by omega⟩⟩⟩⟩
      · rw [h1] at hinv; exact hinv
      · have := (ltB_iff _ _).1 h0; omega
      · rw [h1, h2] at hinv; exact hinv
      · simp only [inK]; omega
      · rw [h1, h2] at hinv; exact hinv
    · rw [show z = b.gs.length by omega, List.drop_length] at hinv
      exact hinv
def refbar_t : List AV → Option (List Cond × AV)
  | [x] => some ([.b (agOk Bar x)], .i (barE (agD x)))
  | _ => none
theorem refbar_T : PureT Tryz.prog [] 30 refbar_t := by
  intro xs ps r h hp
  unfold refbar_t at h
  split at h
  · rename_i x
    cases h
    exact weaken (ys := [_]) ⟨agE_sound (hp _ List.mem_cons_self), trivial⟩ (pure_of_vc mixed Trb_sound (Eq.mp (by kernel_rfl) (refbar_vc (agD x)) : vcFn Tryz.prog Trb 30 (refbar_an (agD x)) [agE (agD x)] (.i (barE (agD x)))))
  · cases h
def refC_an (l : List Bar) : Ann :=
  .two .auto (.two .auto (.two (.two .auto (.one (.loop Nat (fun σ z => [(0, σ.tm 0), (3, .i z)]) (fun σ z => []) 0 (fun σ z => z ≤ l.length ∧ firstE barE (l.drop z) = firstE barE l) (fun σ z => l.length - z) .auto))) .auto))
def Trc : Tb := T0.plus 30 refbar_t
theorem Trc_sound : TbSound Tryz.prog Trc := TbSound.plus tb0_sound refbar_T
theorem refC_vc (l : List Bar) :
 let q1 := (AV.xl false 6 (l.length) fun i j => Enc.enc (List.getD l i Enc.dflt) j); bndL [AV.xl false 6 (l.length) fun i j => Enc.enc (List.getD l i Enc.dflt) j] → bsplit (ltB (64 : Int) (l.length : Int)) (IntKind.i64 = .i64 ∧ (4 : Int) = barsE l) ((∃ (z : Nat), ((z ≤ l.length ∧ firstE barE (List.drop z l) = firstE barE l) ∧ avM q1 q1 ∧ IntKind.i64 = .i64 ∧ (0 : Int) = (z : Int)) ∧ True) ∧ ∀ (z : Nat), let q2 := (AV.agg 6 fun (i : Nat) => Enc.enc (List.getD l (Int.toNat (z : Int)) Enc.dflt) (0 + i)); let q3 := (agD q2); z ≤ l.length ∧ firstE barE (List.drop z l) = firstE barE l → bsplit (ltB (z
 : Int) (l.length : Int)) (bsplit (DB.db ((0 : Int) ≤ (z : Int) ∧ (z : Int) < (l.length : Int))) (bsplit (agOk Bar q2) (bsplit (barE q3 != (0 : Int)) (IntKind.i64 = .i64 ∧ barE q3 = barsE l) (bsplit (DB.db (inK .i64 ((z : Int) + (1 : Int)))) (∃ (z' : Nat), (((z' ≤ l.length ∧ firstE barE (List.drop z' l) = firstE barE l) ∧ l.length - z' < l.length - z) ∧ avM q1 q1 ∧ IntKind.i64 = .i64 ∧ (z : Int) + (1 : Int) = (z' : Int)) ∧ True) False)) False) False) (IntKind.i64 = .i64 ∧ (0 : Int) = barsE l)) := by
  dsimp only
  intro hb
  have hl : l.length ≤ 9223372036854775807 := hb.1
  simp only [avM_refl, true_and, and_true, vc_lt, vc_db, vc_tt, vc_ne, Nat.zero_add, Nat.zero_le, Nat.sub_zero, Int.toNat_natCast, agD_bar, agOk_bar, agD_bar', agOk_bar']
  refine ⟨fun h => ?_, fun h => ⟨⟨0, by simp⟩, fun z ⟨h1, h2⟩ => ⟨fun hz => ⟨⟨by omega, by omega⟩, fun hne => ?_, fun he => ⟨by simp only [inK]; omega, z + 1, ⟨⟨by omega, ?_⟩, by omega⟩, by omega⟩⟩, fun hz => ?_⟩⟩⟩
  · unfold barsE; rw [(blt_iff _ _).2 (by omega)]; rfl
  · rw [firstE_step (d := Enc.dflt) (by omega), bne_iff_ne.2 hne] at h2
    unfold barsE
    rw [show Nat.blt 64 l.length = false by rw [Bool.eq_false_iff]; intro h; have := (blt_iff _ _).1 h; omega]
    exact h2
  · rw [firstE_step (d := Enc.dflt) (by omega), he] at h2
    exact h2
  · rw [show z = l.length by omega, List.drop_length] at h2
    unfold barsE
    rw [show Nat.blt 64 l.length = false by rw [Bool.eq_false_iff]; intro h; have := (blt_iff _ _).1 h; omega]
    exact h2
end Go.Tz
