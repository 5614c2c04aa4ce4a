/- kingpostlaw45.fine; what is read back. -/
import Derived.Test.YtojonobehnbeiaaGreatDoorTzEx
import Derived.Test.YtojonobehnbeiaaGreatDoorTzCi
set_option linter.unusedSimpArgs false
namespace Go.Tz
open Go Go.Sx Go.Proofs
set_option maxRecDepth 100000
set_option maxHeartbeats 4000000
def fineB (ps : List Cut) (bs : List Bar) (k : Int) : Bool :=
  !(g42 ps || g43 bs) && (splitE ps == 0) && leB (splitC ps).length 6 && leB bs.length 4 && (barsE bs == 0) && leB 0 k && leB k 100
def Tfi (ps : List Cut) (bs : List Bar) : Tb := ((T0.plus 29 split_t).plus 21 (inst [slE ps, slE bs] (.b (g42 ps || g43 bs)))).plus 9 bars_t
theorem Tfi_sound (ps : List Cut) (bs : List Bar) : TbSound Tryz.prog (Tfi ps bs) := TbSound.plus (TbSound.plus (TbSound.plus tb0_sound refS_T) (inst_T (gr_C ps bs))) refC_T
theorem fine_vc (ps : List Cut) (bs : List Bar) (k : Int) :
 let q2 := (bif !(g42 ps || g43 bs) then splitE (cutsOf (slX 4 ps)) == (0 : Int) else false); let q1 := (!bsel true q2 || bsel true q2); let q5 := (↑(List.length (splitC (cutsOf (slX 4 ps)))) : Int); let q4 := (bif bif !(g42 ps || g43 bs) then splitE (cutsOf (slX 4 ps)) == (0 : Int) else false then leB q5 (6 : Int) else false); let q3 := (!bsel true q4 || bsel true q4); let q7 := (bif bif bif !(g42 ps || g43 bs) then splitE (cutsOf (slX 4 ps)) == (0 : Int) else false then leB q5 (6 : Int) else false then leB (bs.length : Int) (4 : Int) else false); let q6 := (!bsel true q7 || bsel true q7); let
 q8 := (bif bif bif bif !(g42 ps || g43 bs) then splitE (cutsOf (slX 4 ps)) == (0 : Int) else false then leB q5 (6 : Int) else false then leB (bs.length : Int) (4 : Int) else false then barsE (slD (slX 6 bs)) == (0 : Int) else false); let q9 := (bif bif bif bif bif !(g42 ps || g43 bs) then splitE (cutsOf (slX 4 ps)) == (0 : Int) else false then leB q5 (6 : Int) else false then leB (bs.length : Int) (4 : Int) else false then barsE (slD (slX 6 bs)) == (0 : Int) else false then leB (0 : Int) k else false); bndL [slX 4 ps, slX 6 bs, AV.v (Value.int .i64 k)] → bsplit (slOk Cut (slX 4 ps)) (Wk [slX 4
 ps, slX 6 bs] [slX 4 ps, slX 6 bs] ∧ bsplit (!bsel true !(g42 ps || g43 bs) || bsel true !(g42 ps || g43 bs)) (bsplit (!!(g42 ps || g43 bs) || bsel true !(g42 ps || g43 bs)) (bsplit q1 (bsplit q1 (bsplit ((!bif !(g42 ps || g43 bs) then splitE (cutsOf (slX 4 ps)) == (0 : Int) else false) || bsel true q2) (bsplit q3 (bsplit q3 (bsplit ((!bif bif !(g42 ps || g43 bs) then splitE (cutsOf (slX 4 ps)) == (0 : Int) else false then leB q5 (6 : Int) else false) || bsel true q4) (bsplit q6 (bsplit (!bsel true q7 || slOk Bar (slX 6 bs)) (bsplit q6 (bsplit ((!bif bif bif !(g42 ps || g43 bs) then splitE
 (cutsOf (slX 4 ps)) == (0 : Int) else false then leB q5 (6 : Int) else false then leB (bs.length : Int) (4 : Int) else false) || bsel true q7) (bsplit (!bsel true q8 || bsel true q8) (bsplit ((!bif bif bif bif !(g42 ps || g43 bs) then splitE (cutsOf (slX 4 ps)) == (0 : Int) else false then leB q5 (6 : Int) else false then leB (bs.length : Int) (4 : Int) else false then barsE (slD (slX 6 bs)) == (0 : Int) else false) || bsel true q8) (bsplit (!bsel true q9 || bsel true q9) (bsplit ((!bif bif bif bif bif !(g42 ps || g43 bs) then splitE (cutsOf (slX 4 ps)) == (0 : Int) else false then leB q5 (6 :
 Int) else false then leB (bs.length : Int) (4 : Int) else false then barsE (slD (slX 6 bs)) == (0 : Int) else false then leB (0 : Int) k else false) || bsel true q9) ((bif bif bif bif bif bif !(g42 ps || g43 bs) then splitE (cutsOf (slX 4 ps)) == (0 : Int) else false then leB q5 (6 : Int) else false then leB (bs.length : Int) (4 : Int) else false then barsE (slD (slX 6 bs)) == (0 : Int) else false then leB (0 : Int) k else false then leB k (100 : Int) else false) = fineB ps bs k) False) False) False) False) False) False) False) False) False) False) False) False) False) False) False) False)
 False := by
  dsimp only
  intro hb
  have e0 : (Enc.dflt : Int) = 0 := rfl
  have e1 : (Enc.dflt : Cut) = c0 := rfl
  have e2 : (Enc.dflt : Bar) = b0 := rfl
  simp only [slX, slN, avM_refl, true_and, and_true, bsel_true, bsel_false, vc_own, bif_or, bif_and, vc_gdb, vc_db, vc_lt, vc_le, vc_ne, vc_eq, vc_tt, Int.toNat_natCast, Nat.zero_add, Nat.zero_le, Nat.sub_zero, agD_bar, agOk_bar, agD_bar', agOk_bar', agD_cut, agOk_cut, agD_cut', agOk_cut', agD_used, agOk_used, agD_used', agOk_used', int_i, Bool.or_true, cond_true, cond_false, okC, okC', deC, deC', okB, deB, okB', deB', okIn, okIn', deI, deI', okU, okU', deU, deU', okBl, deBl, okUl, deUl, deIo, cutsOf_sl, e0, e1, e2, deBo]
  exact ⟨Wk.refl _, rfl⟩
theorem cloneB_vc (f : Bool) (m : Nat) (e : Nat → Nat → AV) (hm : m * 64 ≤ 140737488355328) :
 let q1 := (DB.db ((0 + m) * 64 ≤ 140737488355328)); let q2 := (26 = (26 : TypeId) ∧ 6 = 6 ∧ 0 + m = m ∧ ∀ (i j : Nat), i < m → j < 6 → avM (e (i - 0) j) (e i j)); bndL [AV.xl f 6 m e] → bsplit (Nat.beq m 0) (m = 0 ∧ bsplit q1 q2 False) (bsplit q1 q2 False) := by
  dsimp only
  intro _
  have hb : (0 + m) * 64 ≤ 140737488355328 := by omega
  have key : bsplit (DB.db ((0 + m) * 64 ≤ 140737488355328)) (26 = 26 ∧ 6 = 6 ∧ 0 + m = m ∧ ∀ (i j : Nat), i < m → j < 6 → avM (e (i - 0) j) (e i j)) False :=
    vc_db.2 ⟨hb, rfl, rfl, by omega, fun i j _ _ => avM_refl _⟩
  exact bsplit_iff.2 ⟨fun h => ⟨Nat.eq_of_beq_eq_true h, key⟩, fun _ => key⟩
theorem cloneB_T : FreshT Tryz.prog [] 13 (clone_t 26 6 64) := by
  intro xs ps ty sz len els h hp
  unfold clone_t at h
  split at h
  · split at h
    · rename_i f m e hx
      cases h
      exact weakenF (ys := [_]) ⟨slV_avM hx, trivial⟩ (fresh_of_vc mixed tb0_sound (Eq.mp (by kernel_rfl) (cloneB_vc f len els (DB.iff.1 (hp _ List.mem_cons_self))) : vcFresh Tryz.prog T0 13 .auto [.xl f 6 len els] 26 6 len els))
    · cases h
  · cases h
theorem fine_C (ps : List Cut) (bs : List Bar) (k : Int) : PureCall Tryz.prog [] 8 [slE ps, slE bs, .i k] (.b (fineB ps bs k)) :=
  pure_of_vc mixed (Tfi_sound ps bs) (Eq.mp (by kernel_rfl) (fine_vc ps bs k) : vcFn Tryz.prog (Tfi ps bs) 8 .auto [slE ps, slE bs, .i k] (.b (fineB ps bs k)))
theorem FreshT.mono {P : Program} {G : List (Nat × Obj)} {f : FuncId} {t : List AV → Option (List Cond × TypeId × Nat × Nat × (Nat → Nat → AV))} (h : FreshT P [] f t) : FreshT P G f t := fun xs ps ty sz len els e hp => FreshCall.mono (h xs ps ty sz len els e hp)
theorem sl_of {α : Type} [Enc α] [LawEnc α] {f : Bool} {len : Nat} {els : Nat → Nat → AV} (g : Nat → α) (h : ∀ i, i < len → els i = Enc.enc (g i)) :
    slOk α (.xl f (Enc.n α) len els) = true ∧ slD (α := α) (.xl f (Enc.n α) len els) = listOf len g := by
  constructor
  · show (Nat.beq _ _ && _) = true
    rw [Bool.and_eq_true]
    exact ⟨Nat.beq_refl _, allN_of fun i hi => by rw [h i hi]; exact LawEnc.ok _⟩
  · show (List.range len).map _ = (List.range len).map _
    refine List.map_congr_left fun i hi => ?_
    rw [h i (List.mem_range.1 hi)]
    exact LawEnc.dec _
theorem listOf_ext {α : Type} {len : Nat} {g : Nat → α} {l : List α} (h1 : l.length = len) (h2 : ∀ i (h : i < l.length), g i = l[i]) : listOf len g = l := by
  refine List.ext_getElem (by simp [listOf, h1]) fun i h3 h4 => ?_
  simp only [listOf, List.getElem_map, List.getElem_range]
  exact h2 i h4
theorem oneB (f : Bool) (b : Bar) : slOk Bar (AV.xl f 6 1 fun _ j => Enc.enc b j) = true ∧ slD (α := Bar) (AV.xl f 6 1 fun _ j => Enc.enc b j) = [b] := by
  obtain ⟨h1, h2⟩ := sl_of (α := Bar) (f := f) (len := 1) (els := fun _ j => Enc.enc b j) (fun _ => b) fun _ _ => rfl
  exact ⟨h1, h2⟩
theorem snocB (f : Bool) (bs : List Bar) (b : Bar) : slOk Bar (AV.xl f 6 (bs.length + 1) fun i j => if i < bs.length then Enc.enc (bs.getD i b0) j else Enc.enc b j) = true ∧
    slD (α := Bar) (AV.xl f 6 (bs.length + 1) fun i j => if i < bs.length then Enc.enc (bs.getD i b0) j else Enc.enc b j) = bs ++ [b] := by
  obtain ⟨h1, h2⟩ := sl_of (α := Bar) (f := f) (len := bs.length + 1) (els := fun i j => if i < bs.length then Enc.enc (bs.getD i b0) j else Enc.enc b j) (fun i => if i < bs.length then bs.getD i b0 else b) fun i hi => by
    funext j
    by_cases e : i < bs.length
    · simp only [if_pos e]
    · simp only [if_neg e]
  refine ⟨h1, h2.trans (listOf_ext (by simp) fun i h => ?_)⟩
  by_cases e : i < bs.length
  · rw [if_pos e, List.getElem_append_left e, List.getD_eq_getElem?_getD, List.getElem?_eq_getElem e]; rfl
  · rw [if_neg e, List.getElem_append_right (by omega)]; simp
theorem takeC (f : Bool) (l : List Cut) {m : Nat} (hm : m ≤ l.length) : slOk Cut (AV.xl f 4 m fun i j => Enc.enc (l.getD i c0) j) = true ∧ slD (α := Cut) (AV.xl f 4 m fun i j => Enc.enc (l.getD i c0) j) = l.take m := by
  obtain ⟨h1, h2⟩ := sl_of (α := Cut) (f := f) (len := m) (els := fun i j => Enc.enc (l.getD i c0) j) (fun i => l.getD i c0) fun _ _ => rfl
  refine ⟨h1, h2.trans (listOf_ext (by simp [hm]) fun i h => ?_)⟩
  rw [List.getElem_take, List.getD_eq_getElem?_getD, List.getElem?_eq_getElem (by simp at h; omega)]; rfl
end Go.Tz
