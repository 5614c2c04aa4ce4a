/- slices.Clone. -/
import Derived.Test.YtojonobehnbeiaaDoorTdB
import Derived.Test.YtojonobehnbeiaaDoorSxS
namespace Go.Td
open Go Go.Sx Go.Proofs
set_option maxRecDepth 100000

def clone_t (ty sz bytes : Nat) : List AV → Option (List Cond × TypeId × Nat × Nat × (Nat → Nat → AV))
  | [x] =>
    match slV sz x with
    | some (_, m, e) => some ([.d (m * bytes ≤ 140737488355328)], ty, sz, m, e)
    | none => none
  | _ => none
theorem cloneI_vc (f : Bool) (m : Nat) (e : Nat → Nat → AV) (hm : m * 8 ≤ 140737488355328) : bndL [AV.xl f (1 : Nat) m e] →
  bsplit (Nat.beq m (0 : Nat))
    (m = (0 : Nat) ∧
      bsplit (DB.db (((0 : Nat) + m) * (8 : Nat) ≤ (140737488355328 : Nat)))
        ((3 : Nat) = (3 : TypeId) ∧
          (1 : Nat) = (1 : Nat) ∧
            (0 : Nat) + m = m ∧ ∀ (i j : Nat), i < m → j < (1 : Nat) → avM (e (i - (0 : Nat)) j) (e i j))
        False)
    (bsplit (DB.db (((0 : Nat) + m) * (8 : Nat) ≤ (140737488355328 : Nat)))
      ((3 : Nat) = (3 : TypeId) ∧
        (1 : Nat) = (1 : Nat) ∧
          (0 : Nat) + m = m ∧ ∀ (i j : Nat), i < m → j < (1 : Nat) → avM (e (i - (0 : Nat)) j) (e i j))
      False) := by
  intro _
  have hb : (0 + m) * 8 ≤ 140737488355328 := by omega
  have key : bsplit (DB.db ((0 + m) * 8 ≤ 140737488355328)) (3 = 3 ∧ 1 = 1 ∧ 0 + m = m ∧ ∀ (i j : Nat), i < m → j < 1 → avM (e (i - 0) j) (e i j)) False :=
    vc_db.2 ⟨hb, rfl, rfl, by omega, fun i j _ _ => avM_refl _⟩
  exact bsplit_iff.2 ⟨fun h => ⟨Nat.eq_of_beq_eq_true h, key⟩, fun _ => key⟩
theorem cloneI_T : FreshT Tryd.prog [] 47 (clone_t 3 1 8) := by
  intro xs ps ty sz len els h hp
  unfold clone_t at h
  split at h
  · split at h
    · rename_i f m e hx
      cases h
      exact weakenF (ys := [_]) ⟨slV_avM hx, trivial⟩ (fresh_of_vc mixed tb0_sound (Eq.mp (by kernel_rfl) (cloneI_vc f len els (DB.iff.1 (hp _ List.mem_cons_self))) : vcFresh Tryd.prog T0 47 .auto [.xl f 1 len els] 3 1 len els))
    · cases h
  · cases h
theorem cloneG_vc (f : Bool) (m : Nat) (e : Nat → Nat → AV) (hm : m * 16 ≤ 140737488355328) : bndL [AV.xl f (2 : Nat) m e] →
  bsplit (Nat.beq m (0 : Nat))
    (m = (0 : Nat) ∧
      bsplit (DB.db (((0 : Nat) + m) * (16 : Nat) ≤ (140737488355328 : Nat)))
        ((106 : Nat) = (106 : TypeId) ∧
          (2 : Nat) = (2 : Nat) ∧
            (0 : Nat) + m = m ∧ ∀ (i j : Nat), i < m → j < (2 : Nat) → avM (e (i - (0 : Nat)) j) (e i j))
        False)
    (bsplit (DB.db (((0 : Nat) + m) * (16 : Nat) ≤ (140737488355328 : Nat)))
      ((106 : Nat) = (106 : TypeId) ∧
        (2 : Nat) = (2 : Nat) ∧
          (0 : Nat) + m = m ∧ ∀ (i j : Nat), i < m → j < (2 : Nat) → avM (e (i - (0 : Nat)) j) (e i j))
      False) := by
  intro _
  have hb : (0 + m) * 16 ≤ 140737488355328 := by omega
  have key : bsplit (DB.db ((0 + m) * 16 ≤ 140737488355328)) (106 = 106 ∧ 2 = 2 ∧ 0 + m = m ∧ ∀ (i j : Nat), i < m → j < 2 → avM (e (i - 0) j) (e i j)) False :=
    vc_db.2 ⟨hb, rfl, rfl, by omega, fun i j _ _ => avM_refl _⟩
  exact bsplit_iff.2 ⟨fun h => ⟨Nat.eq_of_beq_eq_true h, key⟩, fun _ => key⟩
theorem cloneG_T : FreshT Tryd.prog [] 93 (clone_t 106 2 16) := by
  intro xs ps ty sz len els h hp
  unfold clone_t at h
  split at h
  · split at h
    · rename_i f m e hx
      cases h
      exact weakenF (ys := [_]) ⟨slV_avM hx, trivial⟩ (fresh_of_vc mixed tb0_sound (Eq.mp (by kernel_rfl) (cloneG_vc f len els (DB.iff.1 (hp _ List.mem_cons_self))) : vcFresh Tryd.prog T0 93 .auto [.xl f 2 len els] 106 2 len els))
    · cases h
  · cases h

/-- slices.Clone, of whose result only what it holds is told. -/
def cloneP_t (sz bytes : Nat) : List AV → Option (List Cond × AV)
  | [x] =>
    match slV sz x with
    | some (_, m, e) => some ([.d (m * bytes ≤ 140737488355328)], .xl false sz m e)
    | none => none
  | _ => none
theorem cloneP_vc (f : Bool) (m : Nat) (e : Nat → Nat → AV) (hm : m * 8 ≤ 140737488355328) : bndL [AV.xl f (1 : Nat) m e] →
  bsplit (Nat.beq m (0 : Nat))
    (AvW (AV.v (Value.slice (Non Addr) (0 : Nat) (0 : Nat))) (AV.xl false (1 : Nat) m e) ∧
      bsplit (DB.db (((0 : Nat) + m) * (8 : Nat) ≤ (140737488355328 : Nat)))
        (AvW (AV.xl false (1 : Nat) ((0 : Nat) + m) fun (i j : Nat) => e ((0 : Nat) + i - (0 : Nat)) j)
          (AV.xl false (1 : Nat) m e))
        False)
    (bsplit (DB.db (((0 : Nat) + m) * (8 : Nat) ≤ (140737488355328 : Nat)))
      (AvW (AV.xl false (1 : Nat) ((0 : Nat) + m) fun (i j : Nat) => e ((0 : Nat) + i - (0 : Nat)) j)
        (AV.xl false (1 : Nat) m e))
      False) := by
  intro _
  have hb : (0 + m) * 8 ≤ 140737488355328 := by omega
  have k1 : AvW (AV.xl false 1 (0 + m) fun i j => e (0 + i - 0) j) (AV.xl false 1 m e) := ⟨fun h => h, rfl, by omega, fun i j _ _ => avM_of_eq (by show e (0 + i - 0) j = e i j; rw [show 0 + i - 0 = i by omega])⟩
  have key : bsplit (DB.db ((0 + m) * 8 ≤ 140737488355328)) (AvW (AV.xl false 1 (0 + m) fun i j => e (0 + i - 0) j) (AV.xl false 1 m e)) False := vc_db.2 ⟨hb, k1⟩
  exact bsplit_iff.2 ⟨fun h => ⟨⟨rfl, Nat.eq_of_beq_eq_true h⟩, key⟩, fun _ => key⟩
theorem cloneP_T : PureT Tryd.prog [] 47 (cloneP_t 1 8) := by
  intro xs ps r h hp
  unfold cloneP_t at h
  split at h
  · split at h
    · rename_i f m e hx
      cases h
      exact weaken (ys := [_]) ⟨slV_avM hx, trivial⟩ (pure_of_vcW mixed tb0_sound (Eq.mp (by kernel_rfl) (cloneP_vc f m e (DB.iff.1 (hp _ List.mem_cons_self))) : vcFnW Tryd.prog T0 47 .auto [.xl f 1 m e] (.xl false 1 m e)))
    · cases h
  · cases h
end Go.Td
