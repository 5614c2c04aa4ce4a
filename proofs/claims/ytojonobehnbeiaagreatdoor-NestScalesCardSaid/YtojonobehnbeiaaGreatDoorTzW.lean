/- kingpostref42.put and Split, cutlist.Split. -/
import Derived.Test.YtojonobehnbeiaaGreatDoorTzR
import Derived.Test.YtojonobehnbeiaaGreatDoorTzQ
import Derived.Test.YtojonobehnbeiaaGreatDoorTzV
set_option linter.unusedSimpArgs false
namespace Go.Tz
open Go Go.Sx Go.Proofs
set_option maxRecDepth 100000
set_option maxHeartbeats 2000000
def encL (l : List Cut) (i j : Nat) : AV := Enc.enc (l.getD i Enc.dflt) j
def cArr (l : List Cut) : OB := .arr 69 4 l.length fun i j => Enc.enc (l.getD i Enc.dflt) j
def Tpu : Tb := T0.plus 84 behB_t
theorem Tpu_sound : TbSound Tryz.prog Tpu := TbSound.plus tb0_sound behB_T
def put_an (l : List Cut) (x : Cut) : Ann :=
  .two .auto (.two .auto (.two (.one (.loop Nat (fun σ z => [(0, σ.tm 0), (3, σ.tm 3), (5, .i z)]) (fun σ z => []) 0 (fun σ z => z ≤ l.length ∧ ∀ i, i < z → behB (l.getD i ⟨0, 0, 0, []⟩) x = true) (fun σ z => l.length - z) .auto)) .auto))
theorem putL_at {l : List Cut} {x : Cut} {z : Nat} (hz : z ≤ l.length) (h1 : ∀ i, i < z → behB (l.getD i ⟨0, 0, 0, []⟩) x = true) (h2 : z < l.length → behB (l.getD z ⟨0, 0, 0, []⟩) x = false) (i : Nat) :
    (putL l x).getD i ⟨0, 0, 0, []⟩ = if i < z then l.getD i ⟨0, 0, 0, []⟩ else if i = z then x else l.getD (i - 1) ⟨0, 0, 0, []⟩ := by
  have e : posL l x = z := posL_at hz h1 (by by_cases h : z = l.length; exact .inl h; exact .inr (h2 (by omega)))
  rw [putL_pos, e]
  simp only [List.getD_eq_getElem?_getD]
  by_cases h : i < z
  · rw [if_pos h, List.getElem?_append_left (by simp; omega), List.getElem?_take, if_pos h]
  · rw [if_neg h, List.getElem?_append_right (by simp; omega), List.length_take, show min z l.length = z by omega]
    by_cases h3 : i = z
    · rw [if_pos h3, h3, Nat.sub_self]; rfl
    · rw [if_neg h3, show i - z = (i - z - 1) + 1 by omega, List.getElem?_cons_succ, List.getElem?_drop, show z + (i - z - 1) = i - 1 by omega]
theorem put_vc (l : List Cut) (x : Cut) (hl : l.length < 1000000) (hm : ∀ i, i < l.length → 0 < (l.getD i ⟨0, 0, 0, []⟩).ms.length) (hx : 0 < x.ms.length) :
 let q1 := (Cut.mk (0 : Int) (0 : Int) (0 : Int) []); let q2 := (((IntKind.i64 = .i64 ∧ Cut.w x = Cut.w x) ∧ IntKind.i64 = .i64 ∧ Cut.d x = Cut.d x) ∧ IntKind.i64 = .i64 ∧ Cut.l x = Cut.l x); let q5 := (AV.agg 4 fun (i : Nat) => Enc.enc x (0 + i)); let q7 := (agD q5); bndL [slX 4 l, AV.agg 4 (Enc.enc x)] → (∃ (z : Nat), ((z ≤ l.length ∧ ∀ (i : Nat), i < z → behB (List.getD l i q1) x = true) ∧ avM (slX 4 l) (slX 4 l) ∧ (nat_lit 0 = 0 ∧ 0 = 0) ∧ IntKind.i64 = .i64 ∧ (0 : Int) = (z : Int)) ∧ 69 = 69 ∧ 4 = 4 ∧ q2 ∧ avM (slN (Cut.ms x)) (slN (Cut.ms x))) ∧ ∀ (z : Nat), let q3 := (!bsel true (ltB (z :
 Int) (l.length : Int)) || bsel true (ltB (z : Int) (l.length : Int))); let q4 := (AV.agg 4 fun (i : Nat) => Enc.enc (List.getD l (Int.toNat (z : Int)) Enc.dflt) (0 + i)); let q6 := (agD q4); let q8 := (DB.db ((0 : Int) ≤ (z : Int) ∧ (z : Int) ≤ (l.length : Int))); let q9 := (DB.db ((0 + Int.toNat (z : Int) + 1) * 48 ≤ 140737488355328)); let q11 := (bsplit (DB.db ((0 + Int.toNat (z : Int) + 1 + (l.length - Int.toNat (z : Int))) * 48 ≤ 140737488355328)) (69 = (69 : TypeId) ∧ 4 = 4 ∧ 0 + Int.toNat (z : Int) + 1 + (l.length - Int.toNat (z : Int)) = l.length + 1 ∧ ∀ (i j : Nat), i < l.length + 1 → j
 < 4 → avM (if i < 0 + Int.toNat (z : Int) + 1 then if i < 0 + Int.toNat (z : Int) then if i < 0 then AV.junk else Enc.enc (List.getD l (i - 0) Enc.dflt) j else Sx.rowAt [fun (i : Nat) => Enc.enc x (0 + i)] (i - (0 + Int.toNat (z : Int))) j else (fun i j => Enc.enc (List.getD l i Enc.dflt) j) (Int.toNat (z : Int) + (i - (0 + Int.toNat (z : Int) + 1))) j) (encL (putL l x) i j)) False); let q10 := (bsplit q8 q11 False); let q12 := (bsplit q9 q11 False); (z ≤ l.length ∧ ∀ (i : Nat), i < z → behB (List.getD l i q1) x = true) → bsplit q3 (bsplit q3 (bsplit (!bsel true (ltB (z : Int) (l.length : Int))
 || DB.db ((0 : Int) ≤ (z : Int) ∧ (z : Int) < (l.length : Int))) (bsplit q3 (bsplit q3 (bsplit q3 (bsplit (!bsel true (ltB (z : Int) (l.length : Int)) || agOk Cut q4) (bsplit (!bsel true (ltB (z : Int) (l.length : Int)) || agOk Cut q5) (bsplit (!bsel true (ltB (z : Int) (l.length : Int)) || Nat.blt 0 (List.length (Cut.ms q6))) (bsplit (!bsel true (ltB (z : Int) (l.length : Int)) || Nat.blt 0 (List.length (Cut.ms q7))) (bsplit (!ltB (z : Int) (l.length : Int) || bsel true (ltB (z : Int) (l.length : Int))) (bsplit (bif ltB (z : Int) (l.length : Int) then behB q6 q7 else false) (bsplit (DB.db (inK
 .i64 ((z : Int) + (1 : Int)))) (∃ (z' : Nat), (((z' ≤ l.length ∧ ∀ (i : Nat), i < z' → behB (List.getD l i q1) x = true) ∧ l.length - z' < l.length - z) ∧ avM (slX 4 l) (slX 4 l) ∧ (nat_lit 0 = 0 ∧ 0 = 0) ∧ IntKind.i64 = .i64 ∧ (z : Int) + (1 : Int) = (z' : Int)) ∧ 69 = 69 ∧ 4 = 4 ∧ q2 ∧ avM (slN (Cut.ms x)) (slN (Cut.ms x))) False) (bsplit q8 (bsplit (DB.db ((0 + Int.toNat (z : Int)) * 48 ≤ 140737488355328)) (bsplit q9 q10 False ∧ (bsplit q9 q10 False ∧ bsplit q9 q10 False ∧ bsplit q8 q12 False) ∧ bsplit q9 q10 False ∧ bsplit q9 q10 False ∧ bsplit q8 q12 False) False) False)) False) False)
 False) False) False) False) False) False) False) False) False := by
  dsimp only
  intro hb
  have e0 : (Enc.dflt : Int) = 0 := rfl
  have e1 : (Enc.dflt : Cut) = ⟨0, 0, 0, []⟩ := rfl
  simp only [slX, slN, avM_refl, true_and, and_true, bsel_true, bsel_false, vc_own, bif_or, bif_and, vc_gdb, vc_db, vc_lt, vc_le, vc_ne, vc_eq, vc_tt, Int.toNat_natCast, Nat.zero_add, Nat.zero_le, Nat.sub_zero, agD_bar, agOk_bar, agD_bar', agOk_bar', agD_cut, agOk_cut, agD_cut', agOk_cut', agD_used, agOk_used, agD_used', agOk_used', int_i, Bool.or_true, cond_true, cond_false, e0, e1]
  refine ⟨⟨0, ⟨by omega, fun i hi => by omega⟩, rfl⟩, fun z ⟨hz, hi⟩ => ⟨fun h => ?_, vc_grd.2 ⟨fun h => (blt_iff _ _).2 (hm z ?_), vc_grd.2 ⟨fun _ => (blt_iff _ _).2 hx, bsplit_iff.2 ⟨fun h => ⟨by simp only [inK]; omega, z + 1, ⟨⟨?_, fun i hi' => ?_⟩, ?_⟩, by omega⟩, fun h => ?_⟩⟩⟩⟩⟩
  · have h8 : (z : Int) < (l.length : Int) := (ltB_iff _ _).1 h
    omega
  · have h8 : (z : Int) < (l.length : Int) := (ltB_iff _ _).1 h
    omega
  · rw [Bool.and_eq_true, ltB_iff] at h; omega
  · rw [Bool.and_eq_true] at h
    by_cases e : i = z
    · rw [e]; exact h.2
    · exact hi i (by omega)
  · rw [Bool.and_eq_true, ltB_iff] at h; omega
  · have hb2 : z < l.length → behB (l.getD z ⟨0, 0, 0, []⟩) x = false := fun hlt => by
      rw [(ltB_iff _ _).2 (show (z : Int) < (l.length : Int) by omega), Bool.true_and] at h
      exact h
    have F : ∀ (i j : Nat), i < l.length + 1 → j < 4 → avM (if i < z + 1 then if i < z then if i < 0 then AV.junk else Enc.enc (l.getD i ⟨0, 0, 0, []⟩) j else Sx.rowAt [fun i => Enc.enc x i] (i - z) j
        else Enc.enc (l.getD (z + (i - (z + 1))) ⟨0, 0, 0, []⟩) j) (encL (putL l x) i j) := fun i j hi' hj => by
      refine avM_of_eq ?_
      unfold encL
      rw [e1, putL_at hz hi hb2 i]
      by_cases h3 : i < z
      · rw [if_pos (show i < z + 1 by omega), if_pos h3, if_pos h3, if_neg (Nat.not_lt_zero i)]
      · by_cases h4 : i = z
        · rw [if_pos (show i < z + 1 by omega), if_neg h3, if_neg h3, if_pos h4, show i - z = 0 by omega]; rfl
        · rw [if_neg (show ¬ i < z + 1 by omega), if_neg h3, if_neg h4, show z + (i - (z + 1)) = i - 1 by omega]
    and_intros <;> first | exact F | omega
def cutsOf (x : AV) : List Cut := slD x
def cutOf (x : AV) : Cut := agD x
theorem cutsOf_sl (l : List Cut) : cutsOf (AV.xl false 4 l.length fun i j => Enc.enc (l.getD i ⟨0, 0, 0, []⟩) j) = l := slD_slE l
def put_t : List AV → Option (List Cond × TypeId × Nat × Nat × (Nat → Nat → AV))
  | [x, y] => some ([.b (slOk Cut x), .b (agOk Cut y), .b (Nat.blt (cutsOf x).length 1000000 && (cutsOf x).all (fun c => Nat.blt 0 c.ms.length) && Nat.blt 0 (cutOf y).ms.length)], 69, 4, (cutsOf x).length + 1, encL (putL (cutsOf x) (cutOf y)))
  | _ => none
theorem put_T : FreshT Tryz.prog [] 66 put_t := by
  intro xs ps ty sz len els h hp
  unfold put_t at h
  split at h
  · rename_i x y
    cases h
    have h3 : (Nat.blt (cutsOf x).length 1000000 && (cutsOf x).all (fun c => Nat.blt 0 c.ms.length) && Nat.blt 0 (cutOf y).ms.length) = true := hp _ (List.mem_cons_of_mem _ (List.mem_cons_of_mem _ List.mem_cons_self))
    simp only [Bool.and_eq_true, List.all_eq_true] at h3
    have h4 : ∀ i, i < (cutsOf x).length → 0 < ((cutsOf x).getD i ⟨0, 0, 0, []⟩).ms.length := fun i hi => (blt_iff _ _).1 (h3.1.2 _ (by
      rw [List.getD_eq_getElem?_getD, List.getElem?_eq_getElem hi]
      exact List.getElem_mem hi))
    exact weakenF (ys := [_, _]) ⟨slE_sound (hp _ List.mem_cons_self), agE_sound (hp _ (List.mem_cons_of_mem _ List.mem_cons_self)), trivial⟩
      (fresh_of_vc mixed Tpu_sound (Eq.mp (by kernel_rfl) (put_vc (cutsOf x) (cutOf y) ((blt_iff _ _).1 h3.1.1) h4 ((blt_iff _ _).1 h3.2)) : vcFresh Tryz.prog Tpu 66 (put_an (cutsOf x) (cutOf y)) [slE (cutsOf x), agE (cutOf y)] 69 4 ((cutsOf x).length + 1) (encL (putL (cutsOf x) (cutOf y)))))
  · cases h
def splitC (l : List Cut) : List Cut := bif cutsE l == 0 then splitL l else []
def splitE (l : List Cut) : Int := bif cutsE l == 0 then 0 else 1
def firstS (l : List Cut) (z y : Nat) : List Cut := singlesOf (l.take z) ++ ((l.getD z ⟨0, 0, 0, []⟩).ms.take y).map (one (l.getD z ⟨0, 0, 0, []⟩))
theorem firstS_zero (l : List Cut) (z : Nat) : firstS l z 0 = singlesOf (l.take z) := by simp [firstS]
theorem take_snoc {α : Type} {l : List α} {y : Nat} {d : α} (hy : y < l.length) : l.take (y + 1) = l.take y ++ [l.getD y d] := by
  rw [List.take_add_one, List.getElem?_eq_getElem hy, List.getD_eq_getElem?_getD, List.getElem?_eq_getElem hy]; rfl
theorem firstS_succ (l : List Cut) {z y : Nat} (hy : y < (l.getD z ⟨0, 0, 0, []⟩).ms.length) : firstS l z (y + 1) = firstS l z y ++ [one (l.getD z ⟨0, 0, 0, []⟩) ((l.getD z ⟨0, 0, 0, []⟩).ms.getD y 0)] := by
  unfold firstS
  rw [take_snoc hy, List.map_append, ← List.append_assoc]; rfl
theorem firstS_end (l : List Cut) {z : Nat} (hz : z < l.length) : firstS l z (l.getD z ⟨0, 0, 0, []⟩).ms.length = singlesOf (l.take (z + 1)) := by
  rw [singlesOf_snoc l hz, firstS, List.take_length]
theorem firstN_all {f : Nat → Int} : ∀ {n z : Nat}, firstN f n z = 0 → ∀ i, i < n → f (z + i) = 0
  | 0, _, _, i, hi => by omega
  | n + 1, z, h, i, hi => by
    unfold firstN at h
    cases hc : f z != 0 with
    | true => rw [hc] at h; rw [bne_iff_ne] at hc; exact absurd h hc
    | false =>
      rw [hc] at h
      cases i with
      | zero => simpa using hc
      | succ i =>
        have := firstN_all (z := z + 1) h i (by omega)
        rw [show z + (i + 1) = z + 1 + i by omega]; exact this
theorem cutsE_ok {l : List Cut} (h : cutsE l = 0) : l.length ≤ 512 ∧ ∀ z, z < l.length → pieceE (l.getD z ⟨0, 0, 0, []⟩) = 0 := by
  unfold cutsE at h
  cases hc : Nat.blt 512 l.length with
  | true => rw [hc] at h; cases h
  | false =>
    rw [hc] at h
    refine ⟨?_, fun z hz => cutE_zero (by have := firstN_all (z := 0) h z hz; rwa [Nat.zero_add] at this)⟩
    have : ¬ 512 < l.length := fun hh => by rw [(blt_iff _ _).2 hh] at hc; cases hc
    omega
theorem singles_le {l : List Cut} (h : cutsE l = 0) : ∀ z, z ≤ l.length → (singlesOf (l.take z)).length ≤ 512 * z
  | 0, _ => by simp [singlesOf]
  | z + 1, hz => by
    have h1 := singles_le h z (by omega)
    have h2 := pieceE_ok ((cutsE_ok h).2 z (by omega))
    have h3 := asc_len h2.2.1 h2.2.2
    rw [singlesOf_snoc l (by omega), List.length_append, List.length_map]
    omega
theorem firstS_le {l : List Cut} (h : cutsE l = 0) {z y : Nat} (hz : z < l.length) (hy : y ≤ (l.getD z ⟨0, 0, 0, []⟩).ms.length) : (firstS l z y).length ≤ 262144 := by
  have h0 := (cutsE_ok h).1
  have h1 := singles_le h (z + 1) (by omega)
  rw [← firstS_end l hz] at h1
  unfold firstS at h1 ⊢
  simp only [List.length_append, List.length_map, List.length_take] at h1 ⊢
  omega
theorem foldl_len (s : List Cut) : (s.foldl putL []).length = s.length := by
  have := (foldl_put s [] .nil).1.length_eq
  rwa [List.append_nil] at this
theorem foldl_mem {s : List Cut} {c : Cut} (h : c ∈ s.foldl putL []) : c ∈ s := by
  have := (foldl_put s [] .nil).1.subset h
  rwa [List.append_nil] at this
theorem firstS_mem {l : List Cut} {z y : Nat} {c : Cut} (h : c ∈ firstS l z y) : 0 < c.ms.length := by
  rcases List.mem_append.1 h with h | h
  · obtain ⟨m, e⟩ := single_mem h
    rw [e]; exact Nat.zero_lt_one
  · obtain ⟨m, _, rfl⟩ := List.mem_map.1 h
    exact Nat.zero_lt_one
theorem cutOne (c : Cut) (m : Int) : cutOf (AV.agg 4 (listFn [AV.v (Value.int IntKind.i64 c.w), AV.v (Value.int IntKind.i64 c.d), AV.v (Value.int IntKind.i64 c.l), AV.xl true 1 1 (Sx.rowAt [fun _ => AV.v (Value.int IntKind.i64 m)])])) = one c m := rfl
def Tsr : Tb := (T0.plus 50 cuts_t).plusF 66 put_t
theorem Tsr_sound : TbSound Tryz.prog Tsr := TbSound.plusF (TbSound.plus tb0_sound refK_T) put_T
structure SpS where
  i : Nat
  out : List Cut
def refS_an (l : List Cut) : Ann :=
  .two .auto (.two .auto (.two .auto (.two (.two .auto (.one (.loop SpS (fun σ z => [(0, σ.tm 0), (4, .ns σ.nb 0 z.out.length), (5, .i z.i)]) (fun σ z => [(σ.nb, cArr z.out)]) 1 (fun σ z => z.i ≤ l.length ∧ z.out = (singlesOf (l.take z.i)).foldl putL []) (fun σ z => l.length - z.i) (.two .auto (.two (.one (.two .auto (.one (.loop SpS (fun σ z => [(0, σ.tm 0), (5, σ.tm 5), (4, .ns σ.nb 0 z.out.length), (6, .i z.i)]) (fun σ z => [(blkAt (σ.tm 4), .dead), (σ.nb, cArr z.out)]) 1 (fun σ z => z.i ≤ (cutNow l (σ.tm 5)).ms.length ∧ z.out = (firstS l (AV.int (σ.tm 5)).toNat z.i).foldl putL []) (fun σ z => (cutNow l (σ.tm 5)).ms.length - z.i) .auto)))) .auto))))) .auto)))
theorem refS_vc (l : List Cut) :
 bndL [slX 4 l] → bsplit (slOk Cut (slX 4 l)) (bsplit (cutsE (slD (slX 4 l)) != (0 : Int)) (2 = List.length [AV.xl true 4 0 (Sx.rowAt []), AV.v (Value.int .i64 (1 : Int))] ∧ (True ∧ avM (AV.xl true 4 0 (Sx.rowAt [])) (slX 4 (splitC l))) ∧ IntKind.i64 = .i64 ∧ (1 : Int) = splitE l) ((∃ (z : SpS), ((SpS.i z ≤ l.length ∧ SpS.out z = List.foldl putL [] (singlesOf (List.take (SpS.i z) l))) ∧ avM (slX 4 l) (slX 4 l) ∧ (some (Non Nat) = some (Non Nat) ∧ 0 = 0 ∧ List.length (SpS.out z) = 0 ∧ true = true ∧ 0 = 0) ∧ IntKind.i64 = .i64 ∧ (0 : Int) = (↑(SpS.i z) : Int)) ∧ List.length (SpS.out z) = 0) ∧ ∀ (z
 : SpS), let q2 := (AV.v (Value.int .i64 (↑(SpS.i z) : Int))); let q1 := (Cut.ms (cutNow l q2)); let q3 := (Int.toNat (AV.int q2)); let q4 := (IntKind.i64 = .i64 ∧ (↑(SpS.i z) : Int) = (↑(SpS.i z) : Int)); let q5 := (DB.db ((0 : Int) ≤ (↑(SpS.i z) : Int) ∧ (↑(SpS.i z) : Int) < (l.length : Int))); let q8 := (List.getD l (Int.toNat (↑(SpS.i z) : Int)) Enc.dflt); let q7 := (Cut.ms q8); let q6 := (↑(List.length q7) : Int); SpS.i z ≤ l.length ∧ SpS.out z = List.foldl putL [] (singlesOf (List.take (SpS.i z) l)) → bsplit (ltB (↑(SpS.i z) : Int) (l.length : Int)) ((∃ (z_1 : SpS), ((SpS.i z_1 ≤
 List.length q1 ∧ SpS.out z_1 = List.foldl putL [] (firstS l q3 (SpS.i z_1))) ∧ avM (slX 4 l) (slX 4 l) ∧ q4 ∧ (nat_lit 1 = 1 ∧ 0 = 0 ∧ List.length (SpS.out z_1) = List.length (SpS.out z)) ∧ IntKind.i64 = .i64 ∧ (0 : Int) = (↑(SpS.i z_1) : Int)) ∧ True ∧ 69 = 69 ∧ 4 = 4 ∧ List.length (SpS.out z_1) = List.length (SpS.out z) ∧ ∀ (i j : Nat), i < List.length (SpS.out z) → j < 4 → avM (Enc.enc (List.getD (SpS.out z) i Enc.dflt) j) (Enc.enc (List.getD (SpS.out z_1) i Enc.dflt) j)) ∧ ∀ (z_1 : SpS), let q9 := (AV.xl false 4 (List.length (SpS.out z_1)) fun i j => Enc.enc (List.getD (SpS.out z_1) (0 + i)
 Enc.dflt) j); let q10 := (cutsOf q9); let q11 := (cutOf (AV.agg 4 (listFn [AV.v (Value.int .i64 (Cut.w q8)), AV.v (Value.int .i64 (Cut.d q8)), AV.v (Value.int .i64 (Cut.l q8)), AV.xl true 1 1 (Sx.rowAt [fun (x : Nat) => AV.v (Value.int .i64 (List.getD q7 (Int.toNat (↑(SpS.i z_1) : Int)) Enc.dflt))])]))); SpS.i z_1 ≤ List.length q1 ∧ SpS.out z_1 = List.foldl putL [] (firstS l q3 (SpS.i z_1)) → bsplit q5 (bsplit (ltB (↑(SpS.i z_1) : Int) q6) (bsplit q5 (bsplit q5 (bsplit (DB.db ((0 : Int) ≤ (↑(SpS.i z_1) : Int) ∧ (↑(SpS.i z_1) : Int) < q6)) (bsplit (slOk Cut q9) (bsplit ((Nat.blt (List.length
 q10) 1000000 && List.all q10 fun (c : Cut) => Nat.blt 0 (List.length (Cut.ms c))) && Nat.blt 0 (List.length (Cut.ms q11))) (bsplit (DB.db (inK .i64 ((↑(SpS.i z_1) : Int) + (1 : Int)))) (∃ (z' : SpS), (((SpS.i z' ≤ List.length q1 ∧ SpS.out z' = List.foldl putL [] (firstS l q3 (SpS.i z'))) ∧ List.length q1 - SpS.i z' < List.length q1 - SpS.i z_1) ∧ avM (slX 4 l) (slX 4 l) ∧ q4 ∧ (nat_lit 1 = 1 ∧ 0 = 0 ∧ List.length (SpS.out z') = List.length q10 + 1) ∧ IntKind.i64 = .i64 ∧ (↑(SpS.i z_1) : Int) + (1 : Int) = (↑(SpS.i z') : Int)) ∧ True ∧ 69 = 69 ∧ 4 = 4 ∧ List.length (SpS.out z') = List.length q10
 + 1 ∧ ∀ (i j : Nat), i < List.length q10 + 1 → j < 4 → avM (encL (putL q10 q11) i j) (Enc.enc (List.getD (SpS.out z') i Enc.dflt) j)) False) False) False) False) False) False) (bsplit (DB.db (inK .i64 ((↑(SpS.i z) : Int) + (1 : Int)))) (∃ (z' : SpS), (((SpS.i z' ≤ l.length ∧ SpS.out z' = List.foldl putL [] (singlesOf (List.take (SpS.i z') l))) ∧ l.length - SpS.i z' < l.length - SpS.i z) ∧ avM (slX 4 l) (slX 4 l) ∧ (nat_lit 0 = 0 ∧ 0 = 0 ∧ List.length (SpS.out z') = List.length (SpS.out z_1)) ∧ IntKind.i64 = .i64 ∧ (↑(SpS.i z) : Int) + (1 : Int) = (↑(SpS.i z') : Int)) ∧ 69 = 69 ∧ 4 = 4 ∧
 List.length (SpS.out z') = List.length (SpS.out z_1) ∧ ∀ (i j : Nat), i < List.length (SpS.out z_1) → j < 4 → avM (Enc.enc (List.getD (SpS.out z_1) i Enc.dflt) j) (Enc.enc (List.getD (SpS.out z') i Enc.dflt) j)) False)) False) (2 = List.length [AV.xl false 4 (List.length (SpS.out z)) fun i j => Enc.enc (List.getD (SpS.out z) (0 + i) Enc.dflt) j, AV.v (Value.int .i64 (0 : Int))] ∧ (True ∧ avM (AV.xl false 4 (List.length (SpS.out z)) fun i j => Enc.enc (List.getD (SpS.out z) (0 + i) Enc.dflt) j) (slX 4 (splitC l))) ∧ IntKind.i64 = .i64 ∧ (0 : Int) = splitE l))) False := by
  dsimp only
  intro hb
  have e0 : (Enc.dflt : Int) = 0 := rfl
  have e1 : (Enc.dflt : Cut) = ⟨0, 0, 0, []⟩ := rfl
  simp only [slX, slN, avM_refl, true_and, and_true, bsel_true, bsel_false, vc_own, bif_or, bif_and, vc_gdb, vc_db, vc_lt, vc_le, vc_ne, vc_eq, vc_tt, Int.toNat_natCast, Nat.zero_add, Nat.zero_le, Nat.sub_zero, agD_bar, agOk_bar, agD_bar', agOk_bar', agD_cut, agOk_cut, agD_cut', agOk_cut', agD_used, agOk_used, agD_used', agOk_used', int_i, Bool.or_true, cond_true, cond_false, e0, e1, cutNow, cutsOf_sl, cutOne]
  have e2 : slD (α := Cut) (AV.xl false 4 l.length fun i j => Enc.enc (l.getD i ⟨0, 0, 0, []⟩) j) = l := slD_slE l
  rw [e2]
  refine vc_b.2 ⟨slOk_slE l, fun h => ?_, fun h => ?_⟩
  · have e3 : (cutsE l == 0) = false := beq_eq_false_iff_ne.2 h
    unfold splitC splitE
    rw [e3]
    exact ⟨rfl, ⟨fun h => (by cases h), rfl, rfl, fun i j hi _ => absurd hi (Nat.not_lt_zero _)⟩, rfl⟩
  have e3 : splitC l = splitL l := by unfold splitC; rw [h]; rfl
  have e4 : 0 = splitE l := by unfold splitE; rw [h]; rfl
  have hl := (cutsE_ok h).1
  rw [e3, ← e4]
  refine ⟨⟨⟨0, []⟩, ⟨⟨Nat.zero_le _, rfl⟩, rfl, rfl⟩, rfl⟩, fun s ⟨s1, s2⟩ => ⟨fun hs => ⟨⟨⟨0, s.out⟩, ⟨⟨Nat.zero_le _, by rw [firstS_zero]; exact s2⟩, rfl, rfl⟩, rfl, fun _ _ _ _ => avM_refl _⟩, fun t ⟨t1, t2⟩ => ⟨by omega, fun ht => ⟨by omega, by omega, by omega, vc_b.2 ⟨slOk_slE t.out, vc_b.2 ⟨?_, ?_⟩⟩⟩, fun ht => ?_⟩⟩, fun hs => ?_⟩⟩
  · have h5 := firstS_le h (z := s.i) (y := t.i) (by omega) t1
    rw [t2, foldl_len, (blt_iff _ _).2 (by omega), List.all_eq_true.2 fun c hc => (blt_iff _ _).2 (firstS_mem (foldl_mem hc))]
    rfl
  · have h6 := ((pieceE_ok ((cutsE_ok h).2 s.i (by omega))))
    have h7 := asc_len h6.2.1 h6.2.2
    refine ⟨by simp only [inK]; omega, ⟨t.i + 1, putL t.out (one (l.getD s.i ⟨0, 0, 0, []⟩) ((l.getD s.i ⟨0, 0, 0, []⟩).ms.getD t.i 0))⟩, ⟨⟨⟨by simp only; omega, ?_⟩, by simp only; omega⟩, putL_len _ _, by simp⟩, putL_len _ _, fun i j _ _ => avM_refl _⟩
    rw [firstS_succ l (by omega), List.foldl_append, ← t2]
    rfl
  · refine ⟨by simp only [inK]; omega, ⟨s.i + 1, t.out⟩, ⟨⟨⟨by simp only; omega, ?_⟩, by simp only; omega⟩, rfl, by simp⟩, rfl, fun _ _ _ _ => avM_refl _⟩
    rw [t2, show t.i = (l.getD s.i ⟨0, 0, 0, []⟩).ms.length by omega, firstS_end l (by omega)]
  · rw [show s.i = l.length by omega, List.take_length] at s2
    rw [s2]
    exact ⟨rfl, avM_refl _, rfl⟩
def split_t : List AV → Option (List Cond × AV)
  | [x] => some ([.b (slOk Cut x)], .tup 2 (listFn [slE (splitC (cutsOf x)), .i (splitE (cutsOf x))]))
  | _ => none
theorem refS_T : PureT Tryz.prog [] 29 split_t := by
  intro xs ps r h hp
  unfold split_t at h
  split at h
  · rename_i x
    cases h
    exact weaken (ys := [_]) ⟨slE_sound (hp _ List.mem_cons_self), trivial⟩ (pure_of_vc mixed Tsr_sound (Eq.mp (by kernel_rfl) (refS_vc (cutsOf x)) : vcFn Tryz.prog Tsr 29 (refS_an (cutsOf x)) [slE (cutsOf x)] (.tup 2 (listFn [slE (splitC (cutsOf x)), .i (splitE (cutsOf x))]))))
  · cases h
def Tcs : Tb := { (T0.plus 36 cuts_t) with own := fun g => bif Nat.beq g 37 then some sortO else none }
theorem Tcs_sound : TbSound Tryz.prog Tcs := by
  have h : TbSound Tryz.prog (T0.plus 36 cuts_t) := TbSound.plus tb0_sound cutK_T
  refine ⟨fun f t e => ?_, h.pu, h.fre⟩
  have e' : (bif Nat.beq f 37 then some sortO else none) = some t := e
  rcases beq_cases f 37 with ⟨hb, hf⟩ | ⟨hb, hf⟩
  · rw [hb] at e'
    cases e'
    rw [hf]
    exact sort_own _
  · rw [hb] at e'
    cases e'
theorem snoc_avm {α : Type} [Enc α] (l : List α) (x : α) (row : Nat → AV) (n : Nat) (hrow : ∀ j, j < n → avM (row j) (Enc.enc x j)) (i j : Nat) (hi : i < l.length + 1) (hj : j < n) :
    avM (if i < l.length then Enc.enc (l.getD i Enc.dflt) j else Sx.rowAt [row] (i - l.length) j) (Enc.enc ((l ++ [x]).getD i Enc.dflt) j) := by
  by_cases h : i < l.length
  · rw [if_pos h, show (l ++ [x]).getD i Enc.dflt = l.getD i Enc.dflt by simp [List.getD_eq_getElem?_getD, List.getElem?_append_left h]]
    exact avM_refl _
  · rw [if_neg h, show i - l.length = 0 by omega, show (l ++ [x]).getD i Enc.dflt = x by
      obtain rfl : i = l.length := by omega
      simp [List.getD_eq_getElem?_getD]]
    exact hrow j hj
theorem cutOk_enc {c : Cut} (h : 0 < c.ms.length) (els : Nat → Nat → AV) (i : Nat) (he : els i = Enc.enc c) : cutOk els i = true := by
  unfold cutOk
  rw [he]
  show (Nat.blt 0 c.ms.length && true) = true
  rw [(blt_iff _ _).2 h]
  rfl
theorem keyAt_enc {c : Cut} (els : Nat → Nat → AV) (i : Nat) (he : els i = Enc.enc c) : keyAt els i = c.key := by
  unfold keyAt cutAt
  rw [he]
  rfl
def cutS_an (l : List Cut) : Ann :=
  .two .auto (.two .auto (.two .auto (.two (.two .auto (.one (.loop SpS (fun σ z => [(13, σ.tm 13), (14, σ.tm 14), (4, .ns σ.nb 0 z.out.length), (15, .i z.i)]) (fun σ z => [(σ.nb, cArr z.out)]) 1 (fun σ z => z.i ≤ l.length ∧ z.out = singlesOf (l.take z.i)) (fun σ z => l.length - z.i) (.two .auto (.two .auto (.two (.one (.two .auto (.two .auto (.one (.loop SpS (fun σ z => [(6, σ.tm 6), (13, σ.tm 13), (14, σ.tm 14), (15, σ.tm 15), (20, σ.tm 20), (21, σ.tm 21), (4, .ns σ.nb 0 z.out.length), (22, .i z.i)]) (fun σ z => [(blkAt (σ.tm 4), .dead), (σ.nb, cArr z.out)]) 1 (fun σ z => z.i ≤ (cutNow l (σ.tm 15)).ms.length ∧ z.out = firstS l (AV.int (σ.tm 15)).toNat z.i) (fun σ z => (cutNow l (σ.tm 15)).ms.length - z.i) .auto))))) .auto)))))) .auto)))
theorem cutS_vc (l : List Cut) :
 let q1 := (IntKind.i64 = .i64 ∧ (l.length : Int) = (l.length : Int)); bndL [slX 4 l] → bsplit (slOk Cut (slX 4 l)) (bsplit (cutsE (slD (slX 4 l)) != (0 : Int)) (2 = List.length [AV.v (Value.slice (Non Addr) 0 0), AV.v (Value.int .i64 (1 : Int))] ∧ (True ∧ Value.slice (Non Addr) 0 0 = Value.slice (Non Addr) 0 0 ∧ List.length (splitC l) = 0) ∧ IntKind.i64 = .i64 ∧ (1 : Int) = splitE l) ((∃ (z : SpS), ((SpS.i z ≤ l.length ∧ SpS.out z = singlesOf (List.take (SpS.i z) l)) ∧ avM (slX 4 l) (slX 4 l) ∧ q1 ∧ (some (Non Nat) = some (Non Nat) ∧ 0 = 0 ∧ List.length (SpS.out z) = 0) ∧ IntKind.i64 = .i64 ∧
 (0 : Int) = (↑(SpS.i z) : Int)) ∧ List.length (SpS.out z) = 0) ∧ ∀ (z : SpS), let q3 := (AV.v (Value.int .i64 (↑(SpS.i z) : Int))); let q2 := (Cut.ms (cutNow l q3)); let q4 := (Int.toNat (AV.int q3)); let q5 := (IntKind.i64 = .i64 ∧ (↑(SpS.i z) : Int) = (↑(SpS.i z) : Int)); let q8 := (List.getD l (Int.toNat (↑(SpS.i z) : Int)) Enc.dflt); let q7 := (Cut.ms q8); let q6 := (slN q7); let q10 := (↑(List.length q7) : Int); let q9 := (IntKind.i64 = .i64 ∧ q10 = q10); let q11 := (True ∧ 69 = 69 ∧ 4 = 4 ∧ (((IntKind.i64 = .i64 ∧ Cut.w q8 = Cut.w q8) ∧ IntKind.i64 = .i64 ∧ Cut.d q8 = Cut.d q8) ∧
 IntKind.i64 = .i64 ∧ Cut.l q8 = Cut.l q8) ∧ avM q6 q6); let q12 := (fun i j => Enc.enc (List.getD (SpS.out z) i Enc.dflt) j); SpS.i z ≤ l.length ∧ SpS.out z = singlesOf (List.take (SpS.i z) l) → bsplit (ltB (↑(SpS.i z) : Int) (l.length : Int)) (bsplit (DB.db ((0 : Int) ≤ (↑(SpS.i z) : Int) ∧ (↑(SpS.i z) : Int) < (l.length : Int))) ((∃ (z_1 : SpS), ((SpS.i z_1 ≤ List.length q2 ∧ SpS.out z_1 = firstS l q4 (SpS.i z_1)) ∧ (nat_lit 1 = 1 ∧ 0 = 0) ∧ avM (slX 4 l) (slX 4 l) ∧ q1 ∧ q5 ∧ avM q6 q6 ∧ q9 ∧ (nat_lit 2 = 2 ∧ 0 = 0 ∧ List.length (SpS.out z_1) = List.length (SpS.out z)) ∧ IntKind.i64 = .i64 ∧
 (0 : Int) = (↑(SpS.i z_1) : Int)) ∧ q11 ∧ 69 = 69 ∧ 4 = 4 ∧ List.length (SpS.out z_1) = List.length (SpS.out z) ∧ ∀ (i j : Nat), i < List.length (SpS.out z) → j < 4 → avM (Enc.enc (List.getD (SpS.out z) i Enc.dflt) j) (Enc.enc (List.getD (SpS.out z_1) i Enc.dflt) j)) ∧ ∀ (z_1 : SpS), SpS.i z_1 ≤ List.length q2 ∧ SpS.out z_1 = firstS l q4 (SpS.i z_1) → bsplit (ltB (↑(SpS.i z_1) : Int) q10) (bsplit (DB.db ((0 : Int) ≤ (↑(SpS.i z_1) : Int) ∧ (↑(SpS.i z_1) : Int) < q10)) (bsplit (DB.db ((List.length (SpS.out z_1) + 1) * 48 ≤ 140737488355328)) (bsplit (DB.db (inK .i64 ((↑(SpS.i z_1) : Int) + (1 :
 Int)))) (∃ (z' : SpS), (((SpS.i z' ≤ List.length q2 ∧ SpS.out z' = firstS l q4 (SpS.i z')) ∧ List.length q2 - SpS.i z' < List.length q2 - SpS.i z_1) ∧ (nat_lit 1 = 1 ∧ 0 = 0) ∧ avM (slX 4 l) (slX 4 l) ∧ q1 ∧ q5 ∧ avM q6 q6 ∧ q9 ∧ (nat_lit 2 = 2 ∧ 0 = 0 ∧ List.length (SpS.out z') = List.length (SpS.out z_1) + 1) ∧ IntKind.i64 = .i64 ∧ (↑(SpS.i z_1) : Int) + (1 : Int) = (↑(SpS.i z') : Int)) ∧ q11 ∧ (69 : TypeId) = 69 ∧ 4 = 4 ∧ List.length (SpS.out z') = List.length (SpS.out z_1) + 1 ∧ ∀ (i j : Nat), i < List.length (SpS.out z_1) + 1 → j < 4 → avM (if i < List.length (SpS.out z_1) then Enc.enc
 (List.getD (SpS.out z_1) i Enc.dflt) j else Sx.rowAt [fun (i : Nat) => if 3 ≤ 0 + i ∧ 0 + i < 4 then AV.xl true 1 1 (Sx.rowAt [fun (x : Nat) => AV.v (Value.int .i64 (List.getD q7 (Int.toNat (↑(SpS.i z_1) : Int)) Enc.dflt))]) else if 0 ≤ 0 + i ∧ 0 + i < 4 then (fun (i : Nat) => if 0 ≤ i ∧ i < 0 + TypeInfo.size (Tables.types (Program.toTables Tryz.prog))[69] then (fun (i : Nat) => (fun i j => Enc.enc (List.getD l i Enc.dflt) j) (Int.toNat (↑(SpS.i z) : Int)) (0 + i)) (i - 0) else zcell (Value.agg #[Value.int .i64 (0 : Int), Value.int .i64 (0 : Int), Value.int .i64 (0 : Int), Value.slice none 0
 0]) i) (0 + (0 + i - 0)) else zcell (Value.agg #[Value.int .i64 (0 : Int), Value.int .i64 (0 : Int), Value.int .i64 (0 : Int), Value.slice (Non Addr) 0 0]) (0 + i)] (i - List.length (SpS.out z_1)) j) (Enc.enc (List.getD (SpS.out z') i Enc.dflt) j)) False) False) False) (bsplit (DB.db (inK .i64 ((↑(SpS.i z) : Int) + (1 : Int)))) (∃ (z' : SpS), (((SpS.i z' ≤ l.length ∧ SpS.out z' = singlesOf (List.take (SpS.i z') l)) ∧ l.length - SpS.i z' < l.length - SpS.i z) ∧ avM (slX 4 l) (slX 4 l) ∧ q1 ∧ (nat_lit 0 = 0 ∧ 0 = 0 ∧ List.length (SpS.out z') = List.length (SpS.out z_1)) ∧ IntKind.i64 = .i64 ∧
 (↑(SpS.i z) : Int) + (1 : Int) = (↑(SpS.i z') : Int)) ∧ 69 = 69 ∧ 4 = 4 ∧ List.length (SpS.out z') = List.length (SpS.out z_1) ∧ ∀ (i j : Nat), i < List.length (SpS.out z_1) → j < 4 → avM (Enc.enc (List.getD (SpS.out z_1) i Enc.dflt) j) (Enc.enc (List.getD (SpS.out z') i Enc.dflt) j)) False)) False) (bsplit (Nat.beq (List.length (SpS.out z)) (List.length (SpS.out z)) && Nat.beq 4 4 && Nat.blt (nat_lit 0) (nat_lit 1)) ((List.length (SpS.out z) < 4611686018427387904 ∧ ∀ (i : Nat), i < List.length (SpS.out z) → cutOk q12 i = true) ∧ ∀ (p : List Nat), List.Perm p (List.range (List.length (SpS.out
 z))) ∧ List.Pairwise (fun i j => Key.lt (keyAt q12 j) (keyAt q12 i) = false) p → 2 = List.length [AV.xl false 4 (List.length (SpS.out z)) fun i j => q12 (List.getD p (0 + i) 0) j, AV.v (Value.int .i64 (0 : Int))] ∧ (True ∧ avM (AV.xl false 4 (List.length (SpS.out z)) fun i j => q12 (List.getD p (0 + i) 0) j) (slX 4 (splitC l))) ∧ IntKind.i64 = .i64 ∧ (0 : Int) = splitE l) False))) False := by
  dsimp only
  intro hb
  have e0 : (Enc.dflt : Int) = 0 := rfl
  have e1 : (Enc.dflt : Cut) = ⟨0, 0, 0, []⟩ := rfl
  simp only [slX, slN, avM_refl, true_and, and_true, bsel_true, bsel_false, vc_own, bif_or, bif_and, vc_gdb, vc_db, vc_lt, vc_le, vc_ne, vc_eq, vc_tt, Int.toNat_natCast, Nat.zero_add, Nat.zero_le, Nat.sub_zero, agD_bar, agOk_bar, agD_bar', agOk_bar', agD_cut, agOk_cut, agD_cut', agOk_cut', agD_used, agOk_used, agD_used', agOk_used', int_i, Bool.or_true, cond_true, cond_false, e0, e1, cutNow, cutsOf_sl, cutOne]
  have e2 : slD (α := Cut) (AV.xl false 4 l.length fun i j => Enc.enc (l.getD i ⟨0, 0, 0, []⟩) j) = l := slD_slE l
  rw [e2]
  refine vc_b.2 ⟨slOk_slE l, fun h => ?_, fun h => ?_⟩
  · have e3 : (cutsE l == 0) = false := beq_eq_false_iff_ne.2 h
    unfold splitC splitE
    rw [e3]
    exact ⟨rfl, rfl, rfl⟩
  have e3 : splitC l = splitL l := by unfold splitC; rw [h]; rfl
  have e4 : 0 = splitE l := by unfold splitE; rw [h]; rfl
  have hl := (cutsE_ok h).1
  rw [e3, ← e4]
  refine ⟨⟨⟨0, []⟩, ⟨⟨Nat.zero_le _, rfl⟩, rfl, rfl⟩, rfl⟩, fun s ⟨s1, s2⟩ => ⟨fun hs => ⟨by omega, ⟨⟨0, s.out⟩, ⟨⟨Nat.zero_le _, by rw [firstS_zero]; exact s2⟩, rfl, rfl⟩, rfl, fun _ _ _ _ => avM_refl _⟩, fun t ⟨t1, t2⟩ => ⟨fun ht => ?_, fun ht => ?_⟩⟩, fun hs => ?_⟩⟩
  · have h6 := ((pieceE_ok ((cutsE_ok h).2 s.i (by omega))))
    have h7 := asc_len h6.2.1 h6.2.2
    have h5 := firstS_le h (z := s.i) (y := t.i) (by omega) t1
    rw [← t2] at h5
    refine ⟨by omega, by omega, by simp only [inK]; omega, ⟨t.i + 1, t.out ++ [one (l.getD s.i ⟨0, 0, 0, []⟩) ((l.getD s.i ⟨0, 0, 0, []⟩).ms.getD t.i 0)]⟩, ⟨⟨⟨by simp only; omega, ?_⟩, by simp only; omega⟩, by simp, by simp⟩, by simp, fun i j hi hj => ?_⟩
    · rw [firstS_succ l (by omega), ← t2]
    · refine snoc_avm t.out (one (l.getD s.i ⟨0, 0, 0, []⟩) ((l.getD s.i ⟨0, 0, 0, []⟩).ms.getD t.i 0)) _ 4 (fun j hj => ?_) i j hi hj
      rcases (by omega : j = 0 ∨ j = 1 ∨ j = 2 ∨ j = 3) with rfl | rfl | rfl | rfl
      · exact avM_of_eq rfl
      · exact avM_of_eq rfl
      · exact avM_of_eq rfl
      · exact ⟨fun h => (by cases h), rfl, rfl, fun i j hi hj => avM_of_eq (by obtain rfl : i = 0 := Nat.lt_one_iff.1 hi; rfl)⟩
  · refine ⟨by simp only [inK]; omega, ⟨s.i + 1, t.out⟩, ⟨⟨⟨by simp only; omega, ?_⟩, by simp only; omega⟩, rfl, by simp⟩, rfl, fun _ _ _ _ => avM_refl _⟩
    rw [t2, show t.i = (l.getD s.i ⟨0, 0, 0, []⟩).ms.length by omega, firstS_end l (by omega)]
  · rw [show s.i = l.length by omega, List.take_length] at s2
    have h8 := singles_le h l.length (Nat.le_refl _)
    rw [List.take_length] at h8
    rw [s2]
    refine bsplit_iff.2 ⟨fun _ => ⟨⟨by omega, fun i hi => cutOk_enc (c := (singlesOf l).getD i ⟨0, 0, 0, []⟩) ?_ _ i rfl⟩, fun p ⟨p1, p2⟩ => ⟨rfl, ?_, rfl⟩⟩, fun hc => ?_⟩
    · obtain ⟨m, e⟩ := single_mem (l := l) (c := (singlesOf l).getD i ⟨0, 0, 0, []⟩) (by
        rw [List.getD_eq_getElem?_getD, List.getElem?_eq_getElem hi]
        exact List.getElem_mem hi)
      rw [e]; exact Nat.zero_lt_one
    · have hpl : p.length = (singlesOf l).length := by rw [p1.length_eq, List.length_range]
      obtain ⟨q1, q2⟩ := splitL_sort p1 (p2.imp fun {i j} hh => by
        rw [keyAt_enc (c := (singlesOf l).getD j ⟨0, 0, 0, []⟩) _ j rfl, keyAt_enc (c := (singlesOf l).getD i ⟨0, 0, 0, []⟩) _ i rfl] at hh
        exact hh)
      refine ⟨fun h => h, rfl, by rw [q1, hpl], fun i j hi hj => avM_of_eq ?_⟩
      simp only [q2 i (show i < p.length by rw [hpl]; exact hi)]
    · rw [show (singlesOf l).length.beq (singlesOf l).length = true from Nat.beq_refl _] at hc
      cases hc
theorem cutS_T : PureT Tryz.prog [] 14 split_t := by
  intro xs ps r h hp
  unfold split_t at h
  split at h
  · rename_i x
    cases h
    exact weaken (ys := [_]) ⟨slE_sound (hp _ List.mem_cons_self), trivial⟩ (pure_of_vc mixed Tcs_sound (Eq.mp (by kernel_rfl) (cutS_vc (cutsOf x)) : vcFn Tryz.prog Tcs 14 (cutS_an (cutsOf x)) [slE (cutsOf x)] (.tup 2 (listFn [slE (splitC (cutsOf x)), .i (splitE (cutsOf x))]))))
  · cases h
end Go.Tz
