/- Regions that draw their order, in runs without unknowns: one order is gone through; all others are to end in the same state. -/
import Derived.Test.YtgpbohfbhfbelaaGreatDoorSxR
import Derived.Test.YtgpbohfbhfbelaaGreatDoorSxRe
set_option linter.unusedSimpArgs false
set_option linter.unusedVariables false
namespace Go.Sx
open Go Go.RowKit
def OA (G : Cx) (o : Oper) : Bool :=
 o.guard.isNone && match o.op with
 | .call { callee := .value (.func f), .. } => (G.own f).isNone
 | .call { callee := .value _, .. } => false
 | _ => true
def GF (o : Oper) : Bool :=
 match o.op with
 | .alloc _ | .box _ _ | .store _ _ _ | .makeSlice _ _ _ | .call { callee := .builtin .append, .. } | .call { callee := .builtin .clear, .. } => true
 | _ => false
def GO : OB → Bool
 | .mp _ _ => true
 | _ => false
def I7 (σ : zo) : Bool := xm (fun k => !GO (σ.bl k)) σ.nb
def Vn (P : Program) (G : Cx) (ops : List Oper) : Nat → Array Bool → zo → (zo → Prop) → Prop
 | 0, L, σ, k =>
  match Region.ready .any ops.toArray L with
  | [] => k σ
  | _ => False
 | f + 1, L, σ, k =>
  match Region.ready .any ops.toArray L with
  | [] => k σ
  | i :: _ =>
   match ops[i]? with
   | some o => wO P G ops o σ fun σ' => Vn P G ops f (L.setIfInBounds i true) σ' k
   | none => False
def Vf (s s' : zo) : List Nat → List (Nat × Nat)
 | [] => []
 | t :: ts =>
  match (s'.tm t).top, (s.tm t).top with
  | some b, some a => bif Nat.beq a b then Vf s s' ts else (b, a) :: Vf s s' ts
  | _, _ => Vf s s' ts
def KQ : List (Nat × Nat) → (List (Nat × Nat) → Prop) → Prop
 | [], k => k []
 | p :: l, k => XF p.1 fun a => XF p.2 fun b => KQ l fun l => k ((a, b) :: l)
theorem OX : ∀ (l : List (Nat × Nat)) (k : List (Nat × Nat) → Prop), KQ l k = k l
 | [], _ => rfl
 | p :: l, k => by unfold KQ; rw [YK, YK]; exact OX l _
def S5 (P : Program) (G : Cx) (ops : List Oper) (σ : zo) (k : zo → Prop) : Prop :=
 Vn P G ops ops.length (Array.replicate ops.length false) σ (H4 true ops fun s =>
  k s ∧ Vy P G ops σ (H4 true ops fun s' => KQ (Vf s s' (ops.filterMap (·.dst))) fun ps => zY (js ps G.nb0 s s') True False))
def W6 (P : Program) (G : Cx) (ops : List Oper) (σ : zo) (k : zo → Prop) : Prop :=
 match G.conc && ops.all (OA G) && Nat.ble 2 (ops.countP GF) && I7 σ with
 | true => S5 P G ops σ k
 | false => Vy P G ops σ (H4 G.conc ops k)
section
variable {P : Program} {G : Cx} {ops : List Oper}
theorem PE {σ : zo} {f : FuncId} {xs : List AV} {t : TypeId} {dst : Option Tmp} {K : zo → Prop} (hf : (G.own f).isNone = true) (h : YS P G σ f xs t dst K) : ∃ σ', K σ' := by
 rw [Option.isNone_iff_eq_none] at hf
 unfold YS at h
 split at h
 ·rw [hf] at h
  simp only at h
  split at h
  ·obtain ⟨r, _, h2⟩ := vU h
   exact ⟨_, h2⟩
  ·split at h
   ·split at h
    ·exact h.elim
    ·split at h
     ·exact ⟨_, ((zd _ _).1 h).2⟩
     ·obtain ⟨r, _, h2⟩ := vU h
      exact ⟨_, h2⟩
   ·exact h.elim
 ·split at h
  ·exact ⟨_, ((zd _ _).1 h).2⟩
  ·split at h
   ·rename_i hi
    unfold inl at hi
    rw [hf] at hi
    cases hi
   ·obtain ⟨r, _, h2⟩ := vU h
    exact ⟨_, h2⟩
theorem kR {σ : zo} {o : Oper} {K : zo → Prop} (hc : OA G o = true) (h : Qj P G σ o K) : ∃ σ', K σ' := by
 unfold OA at hc
 rw [Bool.and_eq_true] at hc
 have hc := hc.2
 unfold Qj at h
 split at h
 ·split at h
  ·exact ⟨_, h⟩
  ·exact h.elim
 ·split at h
  ·exact ⟨_, ((zd _ _).1 h).2⟩
  ·exact h.elim
 ·split at h
  ·split at h
   ·exact ⟨_, ((zd _ _).1 h).2⟩
   ·exact h.elim
  ·exact h.elim
 ·split at h
  ·exact ⟨_, ((zd _ _).1 h).2⟩
  ·split at h
   ·split at h
    ·exact ⟨_, ((zd _ _).1 h).2⟩
    ·exact h.elim
   ·exact h.elim
 ·split at h
  ·exact ⟨_, ((zd _ _).1 h).2⟩
  ·exact h.elim
 ·rename_i f args ts ho
  rw [ho] at hc
  cases f with
  | func fid => exact PE hc ((zd _ _).1 h).2
  | _ => cases hc
 ·split at h
  ·split at h
   ·split at h
    ·exact ⟨_, ((zd _ _).1 h).2⟩
    ·exact h.elim
   ·split at h
    ·exact ⟨_, ((zd _ _).1 h).2⟩
    ·exact h.elim
  ·exact h.elim
 ·split at h
  ·split at h
   ·exact ⟨_, ((zd _ _).1 h).2⟩
   ·exact h.elim
  ·exact h.elim
 ·split at h
  ·exact ⟨_, h⟩
  ·exact h.elim
 ·split at h
  ·exact ⟨_, ((zd _ _).1 h).2⟩
  ·exact h.elim
 ·split at h
  ·exact ⟨_, ((zd _ _).1 h).2⟩
  ·exact h.elim
 ·split at h
  ·exact ⟨_, ((zd _ _).1 h).2⟩
  ·exact h.elim
 ·split at h
  ·exact ⟨_, ((zd _ _).1 h).2⟩
  ·exact h.elim
theorem mn {σ : zo} {o : Oper} {K : zo → Prop} (hc : OA G o = true) (h : wO P G ops o σ K) : ∃ σ', K σ' := by
 have hg : o.guard = none := by
  unfold OA at hc
  rw [Bool.and_eq_true, Option.isNone_iff_eq_none] at hc
  exact hc.1
 unfold wO at h
 rw [hg] at h
 exact kR hc h
theorem SI (hc : ∀ o ∈ ops, OA G o = true) {k : zo → Prop} : ∀ (f : Nat) (L : Array Bool) (σ : zo), Vn P G ops f L σ k → ∃ σ', k σ'
 | 0, L, σ, h => by
  unfold Vn at h
  split at h
  ·exact ⟨_, h⟩
  ·exact h.elim
 | f + 1, L, σ, h => by
  unfold Vn at h
  split at h
  ·exact ⟨_, h⟩
  ·split at h
   ·rename_i o ho
    obtain ⟨σ', h'⟩ := mn (hc o (List.mem_of_getElem? ho)) h
    exact SI hc f _ σ' h'
   ·exact h.elim
theorem Tp (hO : zE P G) {k k' : zo → Prop} (hk : ∀ σ, k σ → k' σ) : ∀ (f : Nat) (L : Array Bool) (σ : zo), Vn P G ops f L σ k → Vn P G ops f L σ k'
 | 0, L, σ, h => by
  unfold Vn at h ⊢
  split at h
  ·exact hk _ h
  ·exact h.elim
 | f + 1, L, σ, h => by
  unfold Vn at h ⊢
  split at h
  ·exact hk _ h
  ·split at h
   ·exact wR hO (fun σ' h' => Tp hO hk f _ σ' h') h
   ·exact h.elim
end
end Go.Sx
