/- nest.lay, kingpostref45.lengths and laid; nest.singles, kingpostref45.start. -/
import Derived.Test.YtojonobehnbeiaaGreatDoorTzW
import Derived.Test.YtojonobehnbeiaaGreatDoorTzU
set_option linter.unusedSimpArgs false
namespace Go.Tz
open Go Go.Sx Go.Proofs
set_option maxRecDepth 100000
set_option maxHeartbeats 2000000
theorem okC (f : Bool) (l : List Cut) : slOk Cut (AV.xl f 4 l.length fun i j => Enc.enc (l.getD i ⟨0, 0, 0, []⟩) j) = true := slOk_slE l
theorem okC' (f : Bool) (l : List Cut) : slOk Cut (AV.xl f 4 l.length fun i j => Enc.enc (l.getD i Enc.dflt) j) = true := slOk_slE l
theorem deC (f : Bool) (l : List Cut) : slD (AV.xl f 4 l.length fun i j => Enc.enc (l.getD i ⟨0, 0, 0, []⟩) j) = l := slD_slE l
theorem deC' (f : Bool) (l : List Cut) : slD (AV.xl f 4 l.length fun i j => Enc.enc (l.getD i Enc.dflt) j) = l := slD_slE l
theorem okB (f : Bool) (l : List Bar) : slOk Bar (AV.xl f 6 l.length fun i j => Enc.enc (l.getD i Enc.dflt) j) = true := slOk_slE l
theorem deB (f : Bool) (l : List Bar) : slD (AV.xl f 6 l.length fun i j => Enc.enc (l.getD i Enc.dflt) j) = l := slD_slE l
theorem okB' (f : Bool) (l : List Bar) : slOk Bar (AV.xl f 6 l.length fun i j => Enc.enc (l.getD i ⟨0, 0, 0, 0, 0, []⟩) j) = true := slOk_slE l
theorem deB' (f : Bool) (l : List Bar) : slD (AV.xl f 6 l.length fun i j => Enc.enc (l.getD i ⟨0, 0, 0, 0, 0, []⟩) j) = l := slD_slE l
theorem okIn (f : Bool) (l : List Int) : slOk Int (AV.xl f 1 l.length fun i j => AV.v (Value.int IntKind.i64 (l.getD i 0))) = true := slOk_slE l
theorem okIn' (f : Bool) (l : List Int) : slOk Int (AV.xl f 1 l.length fun i j => AV.v (Value.int IntKind.i64 (l.getD i Enc.dflt))) = true := slOk_slE l
theorem deI (f : Bool) (l : List Int) : slD (AV.xl f 1 l.length fun i j => AV.v (Value.int IntKind.i64 (l.getD i 0))) = l := slD_slE l
theorem deI' (f : Bool) (l : List Int) : slD (AV.xl f 1 l.length fun i j => AV.v (Value.int IntKind.i64 (l.getD i Enc.dflt))) = l := slD_slE l
theorem okU (f : Bool) (l : List Used) : slOk Used (AV.xl f 3 l.length fun i j => Enc.enc (l.getD i ⟨0, [], []⟩) j) = true := slOk_slE l
theorem okU' (f : Bool) (l : List Used) : slOk Used (AV.xl f 3 l.length fun i j => Enc.enc (l.getD i Enc.dflt) j) = true := slOk_slE l
theorem deU (f : Bool) (l : List Used) : slD (AV.xl f 3 l.length fun i j => Enc.enc (l.getD i ⟨0, [], []⟩) j) = l := slD_slE l
theorem deU' (f : Bool) (l : List Used) : slD (AV.xl f 3 l.length fun i j => Enc.enc (l.getD i Enc.dflt) j) = l := slD_slE l
theorem okBl (b : Bar) : agOk Bar (AV.agg 6 (listFn [AV.v (Value.int IntKind.i64 b.w), AV.v (Value.int IntKind.i64 b.d), AV.v (Value.int IntKind.i64 b.l), AV.v (Value.int IntKind.i64 b.n), AV.v (Value.int IntKind.i64 b.c),
    AV.xl false 2 b.gs.length fun i j => Enc.enc (b.gs.getD i Enc.dflt) j])) = true := agOk_agE b
theorem deBl (b : Bar) : agD (AV.agg 6 (listFn [AV.v (Value.int IntKind.i64 b.w), AV.v (Value.int IntKind.i64 b.d), AV.v (Value.int IntKind.i64 b.l), AV.v (Value.int IntKind.i64 b.n), AV.v (Value.int IntKind.i64 b.c),
    AV.xl false 2 b.gs.length fun i j => Enc.enc (b.gs.getD i Enc.dflt) j])) = b := agD_agE b
theorem okUl (u : Used) : agOk Used (AV.agg 3 (listFn [AV.v (Value.int IntKind.i64 u.bar), AV.xl false 1 u.ps.length fun i j => AV.v (Value.int IntKind.i64 (u.ps.getD i Enc.dflt)),
    AV.xl false 1 u.at_.length fun i j => AV.v (Value.int IntKind.i64 (u.at_.getD i Enc.dflt))])) = true := agOk_agE u
theorem deUl (u : Used) : agD (AV.agg 3 (listFn [AV.v (Value.int IntKind.i64 u.bar), AV.xl false 1 u.ps.length fun i j => AV.v (Value.int IntKind.i64 (u.ps.getD i Enc.dflt)),
    AV.xl false 1 u.at_.length fun i j => AV.v (Value.int IntKind.i64 (u.at_.getD i Enc.dflt))])) = u := agD_agE u
def intsOf (x : AV) : List Int := slD x
theorem deIo (f : Bool) (l : List Int) : intsOf (AV.xl f 1 l.length fun i j => AV.v (Value.int IntKind.i64 (l.getD i 0))) = l := slD_slE l
def lensL (l : List Cut) (ns : List Int) : List Int := ns.map fun n => (l.getD n.toNat ⟨0, 0, 0, []⟩).l
def inL (l : List Cut) (ns : List Int) : Bool := ns.all fun n => leB 0 n && ltB n (l.length : Int)
theorem inL_at {l : List Cut} {ns : List Int} (h : inL l ns = true) {i : Nat} (hi : i < ns.length) : 0 ≤ ns.getD i 0 ∧ ns.getD i 0 < l.length := by
  have := List.all_eq_true.1 h (ns.getD i 0) (by rw [List.getD_eq_getElem?_getD, List.getElem?_eq_getElem hi]; exact List.getElem_mem hi)
  rw [Bool.and_eq_true, leB_iff, ltB_iff] at this
  exact this
theorem lens_succ {l : List Cut} {ns : List Int} {y : Nat} (hy : y < ns.length) : lensL l (ns.take (y + 1)) = lensL l (ns.take y) ++ [(l.getD (ns.getD y 0).toNat ⟨0, 0, 0, []⟩).l] := by
  rw [take_snoc (d := 0) hy, lensL, List.map_append]; rfl
theorem lens_len (l : List Cut) (ns : List Int) : (lensL l ns).length = ns.length := by simp [lensL]
structure LyS where
  i : Nat
  out : List Int
def lens_an (l : List Cut) (ns : List Int) : Ann :=
  .two .auto (.two .auto (.two (.two .auto (.one (.loop LyS (fun σ z => [(0, σ.tm 0), (1, σ.tm 1), (5, .ns σ.nb 0 z.out.length), (6, .i z.i)]) (fun σ z => [(σ.nb, iArr z.out)]) 1 (fun σ z => z.i ≤ ns.length ∧ z.out = lensL l (ns.take z.i)) (fun σ z => ns.length - z.i) .auto))) .auto))
theorem lens_vc (l : List Cut) (ns : List Int) (h : inL l ns = true) (hl : ns.length < 1000000000) : bndL [slX 4 l, slN ns] → (∃ (z : LyS), ((LyS.i z ≤ ns.length ∧ LyS.out z = lensL l (List.take (LyS.i z) ns)) ∧ avM (slX 4 l) (slX 4 l) ∧ avM (slN ns) (slN ns) ∧ (some (Non Nat) = some (Non Nat) ∧ 0 = 0 ∧ List.length (LyS.out z) = 0 ∧ true = true ∧ 0 = 0) ∧ IntKind.i64 = .i64 ∧ (0 : Int) = (↑(LyS.i z) : Int)) ∧ List.length (LyS.out z) = 0) ∧ ∀ (z : LyS), LyS.i z ≤ ns.length ∧ LyS.out z = lensL l (List.take (LyS.i z) ns) → bsplit (ltB (↑(LyS.i z) : Int) (ns.length : Int)) (bsplit (DB.db ((0 : Int)
 ≤ (↑(LyS.i z) : Int) ∧ (↑(LyS.i z) : Int) < (ns.length : Int))) (bsplit (DB.db ((0 : Int) ≤ List.getD ns (Int.toNat (↑(LyS.i z) : Int)) Enc.dflt ∧ List.getD ns (Int.toNat (↑(LyS.i z) : Int)) Enc.dflt < (l.length : Int))) (bsplit (DB.db ((List.length (LyS.out z) + 1) * 8 ≤ 140737488355328)) (bsplit (DB.db (inK .i64 ((↑(LyS.i z) : Int) + (1 : Int)))) (∃ (z' : LyS), (((LyS.i z' ≤ ns.length ∧ LyS.out z' = lensL l (List.take (LyS.i z') ns)) ∧ ns.length - LyS.i z' < ns.length - LyS.i z) ∧ avM (slX 4 l) (slX 4 l) ∧ avM (slN ns) (slN ns) ∧ (nat_lit 0 = 0 ∧ 0 = 0 ∧ List.length (LyS.out z') = List.length
 (LyS.out z) + 1) ∧ IntKind.i64 = .i64 ∧ (↑(LyS.i z) : Int) + (1 : Int) = (↑(LyS.i z') : Int)) ∧ (3 : TypeId) = 3 ∧ 1 = 1 ∧ List.length (LyS.out z') = List.length (LyS.out z) + 1 ∧ ∀ (i j : Nat), i < List.length (LyS.out z) + 1 → j < 1 → avM (if i < List.length (LyS.out z) then AV.v (Value.int .i64 (List.getD (LyS.out z) i (0 : Int))) else Sx.rowAt [fun (x : Nat) => AV.v (Value.int .i64 (Cut.l (List.getD l (Int.toNat (List.getD ns (Int.toNat (↑(LyS.i z) : Int)) Enc.dflt)) Enc.dflt)))] (i - List.length (LyS.out z)) j) (AV.v (Value.int .i64 (List.getD (LyS.out z') i (0 : Int))))) False) False)
 False) False) ((false = true → false = true) ∧ 1 = 1 ∧ List.length (lensL l ns) = List.length (LyS.out z) ∧ ∀ (i j : Nat), i < List.length (LyS.out z) → j < 1 → IntKind.i64 = .i64 ∧ List.getD (LyS.out z) (0 + i) (0 : Int) = List.getD (lensL l ns) i Enc.dflt) := by
  intro hb
  have e0 : (Enc.dflt : Int) = 0 := rfl
  have e1 : (Enc.dflt : Cut) = ⟨0, 0, 0, []⟩ := rfl
  simp only [slX, slN, avM_refl, true_and, and_true, bsel_true, bsel_false, vc_own, bif_or, bif_and, vc_gdb, vc_db, vc_lt, vc_le, vc_ne, vc_eq, vc_tt, Int.toNat_natCast, Nat.zero_add, Nat.zero_le, Nat.sub_zero, agD_bar, agOk_bar, agD_bar', agOk_bar', agD_cut, agOk_cut, agD_cut', agOk_cut', agD_used, agOk_used, agD_used', agOk_used', int_i, Bool.or_true, cond_true, cond_false, okC, okC', deC, deC', okB, deB, okB', deB', okIn, okIn', deI, deI', okU, okU', deU, deU', okBl, deBl, okUl, deUl, deIo, cutsOf_sl, e0, e1]
  refine ⟨⟨⟨0, []⟩, ⟨⟨Nat.zero_le _, rfl⟩, rfl, rfl⟩, rfl⟩, fun z ⟨z1, z2⟩ => ⟨fun hz => ?_, fun hz => ?_⟩⟩
  · have h1 := inL_at h (i := z.i) (by omega)
    have h2 : z.out.length = z.i := by rw [z2, lens_len, List.length_take]; omega
    exact ⟨by omega, h1, by omega, by simp only [inK]; omega, ⟨z.i + 1, z.out ++ [(l.getD (ns.getD z.i 0).toNat ⟨0, 0, 0, []⟩).l]⟩,
      ⟨⟨⟨by simp only; omega, by rw [lens_succ (by omega), ← z2]⟩, by simp only; omega⟩, by simp, by simp⟩, by simp, fun i j hi hj => snoc_enc z.out _ _ 1 (fun j hj => rfl) i j hi hj⟩
  · rw [show z.i = ns.length by omega, List.take_length] at z2
    rw [← z2]
    exact ⟨fun h => h, rfl, fun _ _ _ _ => rfl⟩
theorem ok_E (b : Bar) (ls : List Int) (k : Int) : (fitsE b ls k == 0 && fitsOk b ls k) = fitsOk b ls k := by
  unfold fitsOk
  cases fitsE b ls k == 0 <;> rfl
theorem lens_long {l : List Cut} {b : Bar} {ns : List Int} {k : Int} {i : Nat} (hi : i < ns.length) (h : 65536 < (l.getD (ns.getD i 0).toNat ⟨0, 0, 0, []⟩).l) : fitsE b (lensL l ns) k ≠ 0 := fun h0 => by
  have := (fitsE_ok h0).2.2.2.2 ((l.getD (ns.getD i 0).toNat ⟨0, 0, 0, []⟩).l) (List.mem_map.2 ⟨ns.getD i 0, by rw [List.getD_eq_getElem?_getD, List.getElem?_eq_getElem hi]; exact List.getElem_mem hi, rfl⟩)
  omega
theorem lens_C (l : List Cut) (ns : List Int) (h : inL l ns = true) (hl : ns.length < 1000000000) : PureCall Tryz.prog [] 112 [slE l, slE ns] (slE (lensL l ns)) :=
  pure_of_vc mixed tb0_sound (Eq.mp (by kernel_rfl) (lens_vc l ns h hl) : vcFn Tryz.prog T0 112 (lens_an l ns) [slE l, slE ns] (slE (lensL l ns)))
theorem laid_vc (l : List Cut) (b : Bar) (ns : List Int) (k : Int) (h : inL l ns = true) (hl : ns.length < 1000000000) :
 let q1 := (AV.agg 6 fun (i : Nat) => Enc.enc b (0 + i)); let q3 := (agD q1); let q2 := (fitsOk q3 (slD (slN (lensL l ns))) k); let q4 := (fitsAt q3 (slD (AV.xl false 1 (List.length (lensL l ns)) fun i j => AV.v (Value.int .i64 (List.getD (lensL l ns) i Enc.dflt)))) k); let q5 := (bif fitsOk q3 (slD (slN (lensL l ns))) k then fitsE q3 (slD (slN (lensL l ns))) k == (0 : Int) else false); bndL [slX 4 l, AV.agg 6 (Enc.enc b), AV.v (Value.int .i64 k), slN ns] → Wk [slX 4 l, slN ns] [slX 4 l, slN ns] ∧ bsplit (agOk Bar q1) (bsplit (slOk Int (slN (lensL l ns))) (bsplit (!bsel true q2 || bsel true q2)
 (bsplit (!fitsOk q3 (slD (slN (lensL l ns))) k || bsel true q2) (2 = List.length [slN q4, AV.v (Value.bool q5)] ∧ (True ∧ avM (slN q4) (slN (fitsAt b (lensL l ns) k))) ∧ q5 = fitsOk b (lensL l ns) k) False) False) False) False := by
  dsimp only
  intro hb
  have e0 : (Enc.dflt : Int) = 0 := rfl
  have e1 : (Enc.dflt : Cut) = ⟨0, 0, 0, []⟩ := rfl
  simp only [slX, slN, avM_refl, true_and, and_true, bsel_true, bsel_false, vc_own, bif_or, bif_and, vc_gdb, vc_db, vc_lt, vc_le, vc_ne, vc_eq, vc_tt, Int.toNat_natCast, Nat.zero_add, Nat.zero_le, Nat.sub_zero, agD_bar, agOk_bar, agD_bar', agOk_bar', agD_cut, agOk_cut, agD_cut', agOk_cut', agD_used, agOk_used, agD_used', agOk_used', int_i, Bool.or_true, cond_true, cond_false, okC, okC', deC, deC', okB, deB, okB', deB', okIn, okIn', deI, deI', okU, okU', deU, deU', okBl, deBl, okUl, deUl, deIo, cutsOf_sl, e0, e1]
  exact ⟨Wk.refl _, rfl, by rw [Bool.and_comm]; exact ok_E _ _ _⟩
def lay_an (l : List Cut) (b : Bar) (ns : List Int) (k : Int) : Ann :=
  .two .auto (.two .auto (.two (.two .auto (.one (.loop LyS (fun σ z => [(0, σ.tm 0), (3, σ.tm 3), (5, σ.tm 5), (16, σ.tm 16), (17, σ.tm 17), (10, .ns σ.nb 0 z.out.length), (18, .i z.i)]) (fun σ z => [(σ.nb, iArr z.out)]) 1 (fun σ z => z.i ≤ ns.length ∧ z.out = lensL l (ns.take z.i)) (fun σ z => ns.length - z.i) .auto))) .auto))
theorem lay_vc (l : List Cut) (b : Bar) (ns : List Int) (k : Int) (h : inL l ns = true) (hl : ns.length < 1000000000) :
 let q1 := (IntKind.i64 = .i64 ∧ (ns.length : Int) = (ns.length : Int)); let q2 := (26 = 26 ∧ 6 = 6 ∧ (((((IntKind.i64 = .i64 ∧ Bar.w b = Bar.w b) ∧ IntKind.i64 = .i64 ∧ Bar.d b = Bar.d b) ∧ IntKind.i64 = .i64 ∧ Bar.l b = Bar.l b) ∧ IntKind.i64 = .i64 ∧ Bar.n b = Bar.n b) ∧ IntKind.i64 = .i64 ∧ Bar.c b = Bar.c b) ∧ avM (slX 2 (Bar.gs b)) (slX 2 (Bar.gs b))); let q5 := (AV.agg 6 (listFn [AV.v (Value.int .i64 (Bar.w b)), AV.v (Value.int .i64 (Bar.d b)), AV.v (Value.int .i64 (Bar.l b)), AV.v (Value.int .i64 (Bar.n b)), AV.v (Value.int .i64 (Bar.c b)), slX 2 (Bar.gs b)])); let q7 := (agD q5); bndL
 [slX 4 l, AV.agg 6 (Enc.enc b), slN ns, AV.v (Value.int .i64 k)] → (∃ (z : LyS), ((LyS.i z ≤ ns.length ∧ LyS.out z = lensL l (List.take (LyS.i z) ns)) ∧ avM (slX 4 l) (slX 4 l) ∧ (IntKind.i64 = .i64 ∧ k = k) ∧ (nat_lit 0 = 0 ∧ 0 = 0) ∧ avM (slN ns) (slN ns) ∧ q1 ∧ (some (Non Nat) = some (Non Nat) ∧ 0 = 0 ∧ List.length (LyS.out z) = 0) ∧ IntKind.i64 = .i64 ∧ (0 : Int) = (↑(LyS.i z) : Int)) ∧ q2 ∧ List.length (LyS.out z) = 0) ∧ ∀ (z : LyS), let q3 := (DB.db ((0 : Int) ≤ List.getD ns (Int.toNat (↑(LyS.i z) : Int)) Enc.dflt ∧ List.getD ns (Int.toNat (↑(LyS.i z) : Int)) Enc.dflt < (l.length :
 Int))); let q4 := (Cut.l (List.getD l (Int.toNat (List.getD ns (Int.toNat (↑(LyS.i z) : Int)) Enc.dflt)) Enc.dflt)); let q6 := (AV.xl false 1 (List.length (LyS.out z)) fun i j => AV.v (Value.int .i64 (List.getD (LyS.out z) (0 + i) (0 : Int)))); let q8 := (slD q6); let q9 := (fitsAt (agD (AV.agg 6 (listFn [AV.v (Value.int .i64 (Bar.w b)), AV.v (Value.int .i64 (Bar.d b)), AV.v (Value.int .i64 (Bar.l b)), AV.v (Value.int .i64 (Bar.n b)), AV.v (Value.int .i64 (Bar.c b)), AV.xl false 2 (List.length (Bar.gs b)) fun i j => Enc.enc (List.getD (Bar.gs b) i Enc.dflt) j]))) q8 k); let q10 := (bif fitsE q7
 q8 k == (0 : Int) then fitsOk q7 q8 k else false); LyS.i z ≤ ns.length ∧ LyS.out z = lensL l (List.take (LyS.i z) ns) → bsplit (ltB (↑(LyS.i z) : Int) (ns.length : Int)) (bsplit (DB.db ((0 : Int) ≤ (↑(LyS.i z) : Int) ∧ (↑(LyS.i z) : Int) < (ns.length : Int))) (bsplit q3 (bsplit (ltB (65536 : Int) q4) (2 = List.length [AV.v (Value.slice (Non Addr) 0 0), AV.v (Value.bool false)] ∧ (True ∧ Value.slice (Non Addr) 0 0 = Value.slice (Non Addr) 0 0 ∧ List.length (fitsAt b (lensL l ns) k) = 0) ∧ false = fitsOk b (lensL l ns) k) (bsplit q3 (bsplit (DB.db ((List.length (LyS.out z) + 1) * 8 ≤
 140737488355328)) (bsplit (DB.db (inK .i64 ((↑(LyS.i z) : Int) + (1 : Int)))) (∃ (z' : LyS), (((LyS.i z' ≤ ns.length ∧ LyS.out z' = lensL l (List.take (LyS.i z') ns)) ∧ ns.length - LyS.i z' < ns.length - LyS.i z) ∧ avM (slX 4 l) (slX 4 l) ∧ (IntKind.i64 = .i64 ∧ k = k) ∧ (nat_lit 0 = 0 ∧ 0 = 0) ∧ avM (slN ns) (slN ns) ∧ q1 ∧ (nat_lit 1 = 1 ∧ 0 = 0 ∧ List.length (LyS.out z') = List.length (LyS.out z) + 1) ∧ IntKind.i64 = .i64 ∧ (↑(LyS.i z) : Int) + (1 : Int) = (↑(LyS.i z') : Int)) ∧ q2 ∧ (3 : TypeId) = 3 ∧ 1 = 1 ∧ List.length (LyS.out z') = List.length (LyS.out z) + 1 ∧ ∀ (i j : Nat), i <
 List.length (LyS.out z) + 1 → j < 1 → avM (if i < List.length (LyS.out z) then AV.v (Value.int .i64 (List.getD (LyS.out z) i (0 : Int))) else Sx.rowAt [fun (x : Nat) => AV.v (Value.int .i64 q4)] (i - List.length (LyS.out z)) j) (AV.v (Value.int .i64 (List.getD (LyS.out z') i (0 : Int))))) False) False) False)) False) False) (bsplit (agOk Bar q5) (bsplit (slOk Int q6) (bsplit (!fitsE q7 q8 k == (0 : Int) || bsel true (fitsE q7 q8 k == (0 : Int))) (2 = List.length [slN q9, AV.v (Value.bool q10)] ∧ (True ∧ avM (slN q9) (slN (fitsAt b (lensL l ns) k))) ∧ q10 = fitsOk b (lensL l ns) k) False) False)
 False) := by
  dsimp only
  intro hb
  have e0 : (Enc.dflt : Int) = 0 := rfl
  have e1 : (Enc.dflt : Cut) = ⟨0, 0, 0, []⟩ := rfl
  simp only [slX, slN, avM_refl, true_and, and_true, bsel_true, bsel_false, vc_own, bif_or, bif_and, vc_gdb, vc_db, vc_lt, vc_le, vc_ne, vc_eq, vc_tt, Int.toNat_natCast, Nat.zero_add, Nat.zero_le, Nat.sub_zero, agD_bar, agOk_bar, agD_bar', agOk_bar', agD_cut, agOk_cut, agD_cut', agOk_cut', agD_used, agOk_used, agD_used', agOk_used', int_i, Bool.or_true, cond_true, cond_false, okC, okC', deC, deC', okB, deB, okB', deB', okIn, okIn', deI, deI', okU, okU', deU, deU', okBl, deBl, okUl, deUl, deIo, cutsOf_sl, e0, e1]
  refine ⟨⟨⟨0, []⟩, ⟨⟨Nat.zero_le _, rfl⟩, rfl, rfl⟩, rfl⟩, fun z ⟨z1, z2⟩ => ⟨fun hz => ?_, fun hz => ?_⟩⟩
  · have h1 := inL_at h (i := z.i) (by omega)
    have h2 : z.out.length = z.i := by rw [z2, lens_len, List.length_take]; omega
    refine ⟨by omega, h1, fun hl => ?_, fun hl => ⟨h1, by omega, by simp only [inK]; omega, ⟨z.i + 1, z.out ++ [(l.getD (ns.getD z.i 0).toNat ⟨0, 0, 0, []⟩).l]⟩,
      ⟨⟨⟨by simp only; omega, by rw [lens_succ (by omega), ← z2]⟩, by simp only; omega⟩, by simp, by simp⟩, by simp, fun i j hi hj => snoc_enc z.out _ _ 1 (fun j hj => rfl) i j hi hj⟩⟩
    obtain ⟨b1, b2⟩ := fits_bad (lens_long (b := b) (k := k) (show z.i < ns.length by omega) hl)
    rw [b1, b2]
    exact ⟨rfl, rfl, rfl⟩
  · rw [show z.i = ns.length by omega, List.take_length] at z2
    rw [z2, ok_E]
    exact ⟨rfl, avM_refl _, rfl⟩
def startE (ps : List Cut) (bs : List Bar) (k : Int) : Int :=
  bif cutsE ps != 0 || barsE bs != 0 then 1 else bif ltB k 0 || ltB 100 k then 2 else bif Nat.blt 64 (splitL ps).length then 4 else 0
def startL (ps : List Cut) (bs : List Bar) (k : Int) : List Cut := bif startE ps bs k == 0 then splitL ps else []
def Tsi : Tb := ((T0.plus 36 cuts_t).plus 34 bars_t).plus 14 split_t
theorem Tsi_sound : TbSound Tryz.prog Tsi := TbSound.plus (TbSound.plus (TbSound.plus tb0_sound cutK_T) stockC_T) cutS_T
def Tst : Tb := ((T0.plus 50 cuts_t).plus 9 bars_t).plus 29 split_t
theorem Tst_sound : TbSound Tryz.prog Tst := TbSound.plus (TbSound.plus (TbSound.plus tb0_sound refK_T) refC_T) refS_T
theorem sing_vc (ps : List Cut) (bs : List Bar) (k : Int) : bndL [slX 4 ps, slX 6 bs, AV.v (Value.int .i64 k)] → bsplit (slOk Cut (slX 4 ps)) (bsplit (!bsel false (cutsE (slD (slX 4 ps)) != (0 : Int)) || bsel false (cutsE (slD (slX 4 ps)) != (0 : Int))) (bsplit (!bsel false (cutsE (slD (slX 4 ps)) != (0 : Int)) || slOk Bar (slX 6 bs)) (bsplit (!bsel false (cutsE (slD (slX 4 ps)) != (0 : Int)) || bsel false (cutsE (slD (slX 4 ps)) != (0 : Int))) (bsplit (!!cutsE (slD (slX 4 ps)) != (0 : Int) || bsel false (cutsE (slD (slX 4 ps)) != (0 : Int))) (bsplit (bif cutsE (slD (slX 4 ps)) != (0 : Int)
 then true else barsE (slD (slX 6 bs)) != (0 : Int)) (2 = List.length [AV.v (Value.slice (Non Addr) 0 0), AV.v (Value.int .i64 (1 : Int))] ∧ (True ∧ Value.slice (Non Addr) 0 0 = Value.slice (Non Addr) 0 0 ∧ List.length (startL ps bs k) = 0) ∧ IntKind.i64 = .i64 ∧ (1 : Int) = startE ps bs k) (bsplit (!bsel false (ltB k (0 : Int)) || bsel false (ltB k (0 : Int))) (bsplit (!!ltB k (0 : Int) || bsel false (ltB k (0 : Int))) (bsplit (bif ltB k (0 : Int) then true else ltB (100 : Int) k) (2 = List.length [AV.v (Value.slice (Non Addr) 0 0), AV.v (Value.int .i64 (2 : Int))] ∧ (True ∧ Value.slice (Non
 Addr) 0 0 = Value.slice (Non Addr) 0 0 ∧ List.length (startL ps bs k) = 0) ∧ IntKind.i64 = .i64 ∧ (2 : Int) = startE ps bs k) (bsplit (slOk Cut (slX 4 ps)) (bsplit (splitE (cutsOf (slX 4 ps)) != (0 : Int)) (2 = List.length [AV.v (Value.slice (Non Addr) 0 0), AV.v (Value.int .i64 (splitE (cutsOf (slX 4 ps))))] ∧ (True ∧ Value.slice (Non Addr) 0 0 = Value.slice (Non Addr) 0 0 ∧ List.length (startL ps bs k) = 0) ∧ IntKind.i64 = .i64 ∧ splitE (cutsOf (slX 4 ps)) = startE ps bs k) (bsplit (ltB (64 : Int) (↑(List.length (splitC (cutsOf (slX 4 ps)))) : Int)) (2 = List.length [AV.v (Value.slice (Non
 Addr) 0 0), AV.v (Value.int .i64 (4 : Int))] ∧ (True ∧ Value.slice (Non Addr) 0 0 = Value.slice (Non Addr) 0 0 ∧ List.length (startL ps bs k) = 0) ∧ IntKind.i64 = .i64 ∧ (4 : Int) = startE ps bs k) (2 = List.length [slX 4 (splitC (cutsOf (AV.xl false 4 (ps.length) fun i j => Enc.enc (List.getD ps i Enc.dflt) j))), AV.v (Value.int .i64 (0 : Int))] ∧ (True ∧ avM (slX 4 (splitC (cutsOf (AV.xl false 4 (ps.length) fun i j => Enc.enc (List.getD ps i Enc.dflt) j)))) (slX 4 (startL ps bs k))) ∧ IntKind.i64 = .i64 ∧ (0 : Int) = startE ps bs k))) False)) False) False)) False) False) False) False) False
 := by
  intro hb
  have e0 : (Enc.dflt : Int) = 0 := rfl
  have e1 : (Enc.dflt : Cut) = ⟨0, 0, 0, []⟩ := rfl
  simp only [slX, slN, avM_refl, true_and, and_true, bsel_true, bsel_false, vc_own, bif_or, bif_and, vc_gdb, vc_db, vc_lt, vc_le, vc_ne, vc_eq, vc_tt, Int.toNat_natCast, Nat.zero_add, Nat.zero_le, Nat.sub_zero, agD_bar, agOk_bar, agD_bar', agOk_bar', agD_cut, agOk_cut, agD_cut', agOk_cut', agD_used, agOk_used, agD_used', agOk_used', int_i, Bool.or_true, cond_true, cond_false, okC, okC', deC, deC', okB, deB, okB', deB', okIn, okIn', deI, deI', okU, okU', deU, deU', okBl, deBl, okUl, deUl, deIo, cutsOf_sl, e0, e1]
  refine bsplit_iff.2 ⟨fun h1 => ?_, fun h1 => bsplit_iff.2 ⟨fun h2 => ?_, fun h2 => ?_⟩⟩
  · have e : startE ps bs k = 1 := by unfold startE; rw [h1]; rfl
    rw [show startL ps bs k = [] by unfold startL; rw [e]; rfl, e]
    exact ⟨rfl, rfl, rfl⟩
  · have e : startE ps bs k = 2 := by unfold startE; rw [h1, h2]; rfl
    rw [show startL ps bs k = [] by unfold startL; rw [e]; rfl, e]
    exact ⟨rfl, rfl, rfl⟩
  have hc : cutsE ps = 0 := by rw [Bool.or_eq_false_iff, bne_eq_false_iff_eq] at h1; exact h1.1
  rw [show splitC ps = splitL ps by unfold splitC; rw [hc]; rfl]
  rw [show splitE ps = 0 by unfold splitE; rw [hc]; rfl]
  refine ⟨fun h => absurd rfl h, fun _ => ⟨fun h3 => ?_, fun h3 => ?_⟩⟩
  · have e : startE ps bs k = 4 := by unfold startE; rw [h1, h2, (blt_iff _ _).2 (by omega)]; rfl
    rw [show startL ps bs k = [] by unfold startL; rw [e]; rfl, e]
    exact ⟨rfl, rfl, rfl⟩
  · have e : startE ps bs k = 0 := by
      unfold startE
      rw [h1, h2, show Nat.blt 64 (splitL ps).length = false by rw [Bool.eq_false_iff]; intro h; have := (blt_iff _ _).1 h; omega]
      rfl
    rw [show startL ps bs k = splitL ps by unfold startL; rw [e]; rfl, e]
    exact ⟨rfl, avM_refl _, rfl⟩
theorem start_vc (ps : List Cut) (bs : List Bar) (k : Int) : bndL [slX 4 ps, slX 6 bs, AV.v (Value.int .i64 k)] → bsplit (slOk Cut (slX 4 ps)) (bsplit (!bsel false (cutsE (slD (slX 4 ps)) != (0 : Int)) || bsel false (cutsE (slD (slX 4 ps)) != (0 : Int))) (bsplit (!bsel false (cutsE (slD (slX 4 ps)) != (0 : Int)) || slOk Bar (slX 6 bs)) (bsplit (!bsel false (cutsE (slD (slX 4 ps)) != (0 : Int)) || bsel false (cutsE (slD (slX 4 ps)) != (0 : Int))) (bsplit (!!cutsE (slD (slX 4 ps)) != (0 : Int) || bsel false (cutsE (slD (slX 4 ps)) != (0 : Int))) (bsplit (bif cutsE (slD (slX 4 ps)) != (0 : Int)
 then true else barsE (slD (slX 6 bs)) != (0 : Int)) (2 = List.length [AV.v (Value.slice (Non Addr) 0 0), AV.v (Value.int .i64 (1 : Int))] ∧ (True ∧ Value.slice (Non Addr) 0 0 = Value.slice (Non Addr) 0 0 ∧ List.length (startL ps bs k) = 0) ∧ IntKind.i64 = .i64 ∧ (1 : Int) = startE ps bs k) (bsplit (!bsel false (ltB k (0 : Int)) || bsel false (ltB k (0 : Int))) (bsplit (!!ltB k (0 : Int) || bsel false (ltB k (0 : Int))) (bsplit (bif ltB k (0 : Int) then true else ltB (100 : Int) k) (2 = List.length [AV.v (Value.slice (Non Addr) 0 0), AV.v (Value.int .i64 (2 : Int))] ∧ (True ∧ Value.slice (Non
 Addr) 0 0 = Value.slice (Non Addr) 0 0 ∧ List.length (startL ps bs k) = 0) ∧ IntKind.i64 = .i64 ∧ (2 : Int) = startE ps bs k) (bsplit (slOk Cut (slX 4 ps)) (bsplit (ltB (64 : Int) (↑(List.length (splitC (cutsOf (slX 4 ps)))) : Int)) (2 = List.length [AV.v (Value.slice (Non Addr) 0 0), AV.v (Value.int .i64 (4 : Int))] ∧ (True ∧ Value.slice (Non Addr) 0 0 = Value.slice (Non Addr) 0 0 ∧ List.length (startL ps bs k) = 0) ∧ IntKind.i64 = .i64 ∧ (4 : Int) = startE ps bs k) (2 = List.length [slX 4 (splitC (cutsOf (AV.xl false 4 (ps.length) fun i j => Enc.enc (List.getD ps i Enc.dflt) j))), AV.v
 (Value.int .i64 (0 : Int))] ∧ (True ∧ avM (slX 4 (splitC (cutsOf (AV.xl false 4 (ps.length) fun i j => Enc.enc (List.getD ps i Enc.dflt) j)))) (slX 4 (startL ps bs k))) ∧ IntKind.i64 = .i64 ∧ (0 : Int) = startE ps bs k)) False)) False) False)) False) False) False) False) False := by
  intro hb
  have e0 : (Enc.dflt : Int) = 0 := rfl
  have e1 : (Enc.dflt : Cut) = ⟨0, 0, 0, []⟩ := rfl
  simp only [slX, slN, avM_refl, true_and, and_true, bsel_true, bsel_false, vc_own, bif_or, bif_and, vc_gdb, vc_db, vc_lt, vc_le, vc_ne, vc_eq, vc_tt, Int.toNat_natCast, Nat.zero_add, Nat.zero_le, Nat.sub_zero, agD_bar, agOk_bar, agD_bar', agOk_bar', agD_cut, agOk_cut, agD_cut', agOk_cut', agD_used, agOk_used, agD_used', agOk_used', int_i, Bool.or_true, cond_true, cond_false, okC, okC', deC, deC', okB, deB, okB', deB', okIn, okIn', deI, deI', okU, okU', deU, deU', okBl, deBl, okUl, deUl, deIo, cutsOf_sl, e0, e1]
  refine bsplit_iff.2 ⟨fun h1 => ?_, fun h1 => bsplit_iff.2 ⟨fun h2 => ?_, fun h2 => ?_⟩⟩
  · have e : startE ps bs k = 1 := by unfold startE; rw [h1]; rfl
    rw [show startL ps bs k = [] by unfold startL; rw [e]; rfl, e]
    exact ⟨rfl, rfl, rfl⟩
  · have e : startE ps bs k = 2 := by unfold startE; rw [h1, h2]; rfl
    rw [show startL ps bs k = [] by unfold startL; rw [e]; rfl, e]
    exact ⟨rfl, rfl, rfl⟩
  have hc : cutsE ps = 0 := by rw [Bool.or_eq_false_iff, bne_eq_false_iff_eq] at h1; exact h1.1
  rw [show splitC ps = splitL ps by unfold splitC; rw [hc]; rfl]
  refine ⟨fun h3 => ?_, fun h3 => ?_⟩
  · have e : startE ps bs k = 4 := by unfold startE; rw [h1, h2, (blt_iff _ _).2 (by omega)]; rfl
    rw [show startL ps bs k = [] by unfold startL; rw [e]; rfl, e]
    exact ⟨rfl, rfl, rfl⟩
  · have e : startE ps bs k = 0 := by
      unfold startE
      rw [h1, h2, show Nat.blt 64 (splitL ps).length = false by rw [Bool.eq_false_iff]; intro h; have := (blt_iff _ _).1 h; omega]
      rfl
    rw [show startL ps bs k = splitL ps by unfold startL; rw [e]; rfl, e]
    exact ⟨rfl, avM_refl _, rfl⟩
def lay_t : List AV → Option (List Cond × AV)
  | [x, y, n, .v (.int .i64 k)] => some ([.b (slOk Cut x), .b (agOk Bar y), .b (slOk Int n), .b (inL (slD x) (slD n) && Nat.blt (intsOf n).length 1000000000)],
      .tup 2 (listFn [slE (fitsAt (agD y) (lensL (slD x) (slD n)) k), .b (fitsOk (agD y) (lensL (slD x) (slD n)) k)]))
  | _ => none
theorem lay_T : PureT Tryz.prog [] 61 lay_t := by
  intro xs ps r h hp
  unfold lay_t at h
  split at h
  · rename_i x y n k
    cases h
    have h4 : (inL (slD x) (slD n) && Nat.blt (intsOf n).length 1000000000) = true := hp _ (List.mem_cons_of_mem _ (List.mem_cons_of_mem _ (List.mem_cons_of_mem _ List.mem_cons_self)))
    rw [Bool.and_eq_true, blt_iff] at h4
    exact weaken (ys := [_, _, _, _]) ⟨slE_sound (hp _ List.mem_cons_self), agE_sound (hp _ (List.mem_cons_of_mem _ List.mem_cons_self)), slE_sound (hp _ (List.mem_cons_of_mem _ (List.mem_cons_of_mem _ List.mem_cons_self))), avM_refl _, trivial⟩
      (pure_of_vc mixed (TbSound.plus tb0_sound fitsS_T) (Eq.mp (by kernel_rfl) (lay_vc (slD x) (agD y) (slD n) k h4.1 h4.2) : vcFn Tryz.prog (T0.plus 88 fitsG_t) 61 (lay_an (slD x) (agD y) (slD n) k) [slE (slD x), agE (agD y), slE (slD n), .i k] (.tup 2 (listFn [slE (fitsAt (agD y) (lensL (slD x) (slD n)) k), .b (fitsOk (agD y) (lensL (slD x) (slD n)) k)]))))
  · cases h
def laid_t : List AV → Option (List Cond × AV)
  | [x, y, .v (.int .i64 k), n] => some ([.b (slOk Cut x), .b (agOk Bar y), .b (slOk Int n), .b (inL (slD x) (slD n) && Nat.blt (intsOf n).length 1000000000)],
      .tup 2 (listFn [slE (fitsAt (agD y) (lensL (slD x) (slD n)) k), .b (fitsOk (agD y) (lensL (slD x) (slD n)) k)]))
  | _ => none
theorem laid_T : PureT Tryz.prog [] 92 laid_t := by
  intro xs ps r h hp
  unfold laid_t at h
  split at h
  · rename_i x y k n
    cases h
    have h4 : (inL (slD x) (slD n) && Nat.blt (intsOf n).length 1000000000) = true := hp _ (List.mem_cons_of_mem _ (List.mem_cons_of_mem _ (List.mem_cons_of_mem _ List.mem_cons_self)))
    rw [Bool.and_eq_true, blt_iff] at h4
    exact weaken (ys := [_, _, _, _]) ⟨slE_sound (hp _ List.mem_cons_self), agE_sound (hp _ (List.mem_cons_of_mem _ List.mem_cons_self)), avM_refl _, slE_sound (hp _ (List.mem_cons_of_mem _ (List.mem_cons_of_mem _ List.mem_cons_self))), trivial⟩
      (pure_of_vc mixed (TbSound.plus (TbSound.plus tb0_sound reffits_T) (inst_T (lens_C (slD x) (slD n) h4.1 h4.2))) (Eq.mp (by kernel_rfl) (laid_vc (slD x) (agD y) (slD n) k h4.1 h4.2) : vcFn Tryz.prog ((T0.plus 111 fitsG_t).plus 112 (inst [slE (slD x), slE (slD n)] (slE (lensL (slD x) (slD n))))) 92 .auto [slE (slD x), agE (agD y), .i k, slE (slD n)] (.tup 2 (listFn [slE (fitsAt (agD y) (lensL (slD x) (slD n)) k), .b (fitsOk (agD y) (lensL (slD x) (slD n)) k)]))))
  · cases h
def start_t : List AV → Option (List Cond × AV)
  | [x, y, .v (.int .i64 k)] => some ([.b (slOk Cut x), .b (slOk Bar y)], .tup 2 (listFn [slE (startL (slD x) (slD y) k), .i (startE (slD x) (slD y) k)]))
  | _ => none
theorem sing_T : PureT Tryz.prog [] 32 start_t := by
  intro xs ps r h hp
  unfold start_t at h
  split at h
  · rename_i x y k
    cases h
    exact weaken (ys := [_, _, _]) ⟨slE_sound (hp _ List.mem_cons_self), slE_sound (hp _ (List.mem_cons_of_mem _ List.mem_cons_self)), avM_refl _, trivial⟩
      (pure_of_vc mixed Tsi_sound (Eq.mp (by kernel_rfl) (sing_vc (slD x) (slD y) k) : vcFn Tryz.prog Tsi 32 .auto [slE (slD x), slE (slD y), .i k] (.tup 2 (listFn [slE (startL (slD x) (slD y) k), .i (startE (slD x) (slD y) k)]))))
  · cases h
theorem start_T : PureT Tryz.prog [] 64 start_t := by
  intro xs ps r h hp
  unfold start_t at h
  split at h
  · rename_i x y k
    cases h
    exact weaken (ys := [_, _, _]) ⟨slE_sound (hp _ List.mem_cons_self), slE_sound (hp _ (List.mem_cons_of_mem _ List.mem_cons_self)), avM_refl _, trivial⟩
      (pure_of_vc mixed Tst_sound (Eq.mp (by kernel_rfl) (start_vc (slD x) (slD y) k) : vcFn Tryz.prog Tst 64 .auto [slE (slD x), slE (slD y), .i k] (.tup 2 (listFn [slE (startL (slD x) (slD y) k), .i (startE (slD x) (slD y) k)]))))
  · cases h
end Go.Tz
