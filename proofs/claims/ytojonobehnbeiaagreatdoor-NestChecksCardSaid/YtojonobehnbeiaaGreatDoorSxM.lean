/- Regions whose operations come in any order: what only computes or reads may be taken first. -/
import Derived.Test.YtojonobehnbeiaaGreatDoorSxL
namespace Go.Sx
open Go Go.RowKit

def AV.top : AV → Option Nat
  | .np k _ | .ns k _ _ | .ap k _ _ => some k
  | _ => none

section
variable {P : Program} {bl bl' : Nat → OB}

theorem loadAV_congr {sh : Option Nat} {x : AV} (h : ∀ k, x.top = some k → bl' k = bl k) : loadAV bl' sh x = loadAV bl sh x := by
  cases x <;> simp only [loadAV] <;> rw [h _ rfl]
theorem nilAV_congr {x : AV} (h : ∀ k, x.top = some k → bl' k = bl k) : nilAV bl' x = nilAV bl x := by
  cases x <;> simp only [nilAV] <;> first | rw [h _ rfl] | (split <;> first | rfl | (rename_i e; cases e) | simp_all)
theorem shift_congr {x : AV} {d : Nat} (h : ∀ k, x.top = some k → bl' k = bl k) : x.shift bl' d = x.shift bl d := by
  cases x <;> simp only [AV.shift] <;> rw [h _ rfl]
theorem indexAddr_congr {t : TypeId} {x ix : AV} (h : ∀ k, x.top = some k → bl' k = bl k) : indexAddrAV P bl' t x ix = indexAddrAV P bl t x ix := by
  unfold indexAddrAV
  split
  · split
    · cases x with
      | ns k off len => have e := h k rfl; cases P.info? _ <;> simp only [e]
      | _ => cases P.info? _ <;> rfl
    · cases x with
      | ap k i j => have e := h k rfl; cases P.info? _ <;> cases j <;> simp only [e]
      | _ => cases P.info? _ <;> rfl
    · rfl
  · rfl
theorem slice_congr {t : TypeId} {x : AV} {lo hi mx : Option AV} (h : ∀ k, x.top = some k → bl' k = bl k) : sliceAV P bl' t x lo hi mx = sliceAV P bl t x lo hi mx := by
  unfold sliceAV
  rcases P.underlying t with _ | u
  · rfl
  · cases u with
    | string =>
      cases x with
      | str l => rcases optInt lo with _ | (_ | _) <;> rcases optInt hi with _ | (_ | _) <;> rcases optInt mx with _ | (_ | _) <;> rfl
      | _ => rfl
    | slice e =>
      cases x with
      | ns k off len =>
        have e := h k rfl
        rcases optInt lo with _ | (_ | _) <;> rcases optInt hi with _ | (_ | _) <;> rcases optInt mx with _ | (_ | _) <;> first | rfl | simp only [e]
      | xl => rcases optInt lo with _ | (_ | _) <;> rcases optInt hi with _ | (_ | _) <;> rcases optInt mx with _ | (_ | _) <;> rfl
      | _ => rfl
    | _ => rfl
theorem len_congr {t : TypeId} {x : AV} (h : ∀ k, x.top = some k → bl' k = bl k) : lenAV P bl' t x = lenAV P bl t x := by
  unfold lenAV
  rcases P.underlying t with _ | u
  · rfl
  · cases x with
    | ns k off len =>
      have e := h k rfl
      cases u <;> first | rfl | simp only [e]
    | v x => cases u <;> cases x <;> rfl
    | _ => cases u <;> rfl
theorem bi_congr {b : Builtin} {ts : List TypeId} {xs : List AV} (h : ∀ x ∈ xs, ∀ k, x.top = some k → bl' k = bl k) : biAV P bl' b ts xs = biAV P bl b ts xs := by
  unfold biAV
  split <;> first | rfl | exact len_congr (h _ (by simp))

theorem sliceZ_congr {x : AV} (h : ∀ k, x.top = some k → bl' k = bl k) : sliceZ bl' x = sliceZ bl x := by
  unfold sliceZ
  cases x with
  | ns k off len => simp only [h k rfl]
  | _ => rfl
theorem binX_congr {op : BinOp} {t : TypeId} {x y : AV} (h1 : ∀ k, x.top = some k → bl' k = bl k) (h2 : ∀ k, y.top = some k → bl' k = bl k) : binX P bl' op t x y = binX P bl op t x y := by
  unfold binX bin2AV
  rw [sliceZ_congr h1]
  cases y with
  | np k' o' => simp only [h2 k' rfl]
  | v u =>
    cases u with
    | slice o n c => cases o <;> cases n <;> cases c <;> rfl
    | pointer p => cases p <;> rfl
    | _ => rfl
  | _ => rfl

theorem det_congr {ev ev' : Operand → AV} {o : Op} (he : ∀ x ∈ o.operands, ev' x = ev x) (hb : ∀ x ∈ o.operands, ∀ k, (ev x).strip.top = some k → bl' k = bl k) :
    detOp P bl' ev' o = detOp P bl ev o := by
  have hg : ((ops1 o).flatMap fun x => (ev' x).gprop) = (ops1 o).flatMap fun x => (ev x).gprop := by
    rw [List.flatMap_def, List.flatMap_def]
    congr 1
    refine List.map_congr_left fun x hx => ?_
    rw [he x]
    cases o <;> first | exact Array.mem_toList_iff.1 hx | cases hx
  have hr : detRaw P bl' ev' (fun x => (ev' x).strip) o = detRaw P bl ev (fun x => (ev x).strip) o := by
    have hm : ∀ l : List Operand, (∀ x ∈ l, x ∈ o.operands) → l.map (fun x => (ev' x).strip) = l.map fun x => (ev x).strip := fun l hl => List.map_congr_left fun x hx => by rw [he x (hl x hx)]
    have ho : ∀ l : Option Operand, (∀ x, l = some x → x ∈ o.operands) → l.map (fun x => (ev' x).strip) = l.map fun x => (ev x).strip := fun l hl => by
      cases l with
      | none => rfl
      | some x => simp only [Option.map_some, he x (hl x rfl)]
    cases o with
    | move x => simp only [detRaw, he x (by simp [Op.operands])]
    | assign x => simp only [detRaw, he x (by simp [Op.operands])]
    | pick c a b => simp only [detRaw, he c (by simp [Op.operands]), he a (by simp [Op.operands]), he b (by simp [Op.operands])]
    | load t x =>
      have h := hb x (by simp [Op.operands])
      simp only [detRaw, he x (by simp [Op.operands]), loadAV_congr h]
    | nilCheck x =>
      have h := hb x (by simp [Op.operands])
      simp only [detRaw, he x (by simp [Op.operands]), nilAV_congr h]
    | binOp op t x y t' =>
      have h1 := hb x (by simp [Op.operands])
      have h2 := hb y (by simp [Op.operands])
      simp only [detRaw, he x (by simp [Op.operands]), he y (by simp [Op.operands]), binX_congr h1 h2]
    | build t parts =>
      have : (parts.toList.map fun p => (p.1, (ev' p.2).strip)) = parts.toList.map fun p => (p.1, (ev p.2).strip) := List.map_congr_left fun p hp => by
        rw [he p.2 (by simp only [Op.operands, List.mem_toArray, List.mem_map]; exact ⟨p, hp, rfl⟩)]
      simp only [detRaw, this]
    | unOp op t x => simp only [detRaw, he x (by simp [Op.operands])]
    | convert s d x => simp only [detRaw, he x (by simp [Op.operands])]
    | makeFunc f a b =>
      simp only [detRaw, hm a.toList fun x hx => by simp only [Op.operands, Array.mem_append]; exact .inl (Array.mem_toList_iff.1 hx),
        hm b.toList fun x hx => by simp only [Op.operands, Array.mem_append]; exact .inr (Array.mem_toList_iff.1 hx)]
    | slice t x a b c =>
      have h := hb x (by simp [Op.operands])
      simp only [detRaw, he x (by simp [Op.operands]), slice_congr h, ho a fun x hx => by simp [Op.operands, hx], ho b fun x hx => by simp [Op.operands, hx],
        ho c fun x hx => by simp [Op.operands, hx]]
    | fieldAddr t x f =>
      have h := hb x (by simp [Op.operands])
      simp only [detRaw, he x (by simp [Op.operands]), shift_congr h]
    | field t x f => simp only [detRaw, he x (by simp [Op.operands])]
    | indexAddr t x i =>
      have h := hb x (by simp [Op.operands])
      simp only [detRaw, he x (by simp [Op.operands]), he i (by simp [Op.operands]), indexAddr_congr h]
    | index t x i => simp only [detRaw, he x (by simp [Op.operands]), he i (by simp [Op.operands])]
    | extract x i => simp only [detRaw, he x (by simp [Op.operands])]
    | call c =>
      obtain ⟨cal, args, ts⟩ := c
      cases cal with
      | builtin b =>
        have hin : ∀ x ∈ args.toList, x ∈ (Op.call ⟨.builtin b, args, ts⟩).operands := fun x hx => by simpa [Op.operands, Call.operands] using hx
        simp only [detRaw, hm _ hin]
        rw [bi_congr]
        intro x hx k hk
        obtain ⟨y, hy, rfl⟩ := List.mem_map.1 hx
        exact hb y (hin y hy) k hk
      | _ => rfl
    | _ => rfl
  unfold detOp
  rw [hr, hg]
end

/-! ### How a state grows -/

/-- Blocks from here on are the region's own, where it appends. -/
def lim : Option Nat → Nat → Nat
  | none, n => n
  | some m, n => bif Nat.ble m n then m else n
theorem lim_eq (m n : Nat) : lim (some m) n = if m ≤ n then m else n := by
  show (bif Nat.ble m n then m else n) = _
  by_cases h : m ≤ n
  · rw [if_pos h, Nat.ble_eq_true_of_le h]; rfl
  · rw [if_neg h]
    cases hb : Nat.ble m n with
    | true => exact absurd (Nat.le_of_ble_eq_true hb) h
    | false => rfl
theorem lim_le {m : Option Nat} {n : Nat} : lim m n ≤ n := by
  cases m with
  | none => exact Nat.le_refl _
  | some m => rw [lim_eq]; split <;> omega
theorem lim_some {m n : Nat} : lim (some m) n ≤ m := by rw [lim_eq]; split <;> omega
theorem lim_mono {m : Option Nat} {n n' : Nat} (h : n ≤ n') : lim m n ≤ lim m n' := by
  cases m with
  | none => exact h
  | some m => rw [lim_eq, lim_eq]; split <;> split <;> omega

structure Grow (m : Option Nat) (d : Option Tmp) (σ σ' : Sig) : Prop where
  n : σ'.n = σ.n
  nb : σ.nb ≤ σ'.nb
  bl : ∀ k, k < lim m σ.nb → σ'.bl k = σ.bl k
  tm : ∀ t, d ≠ some t → σ'.tm t = σ.tm t

theorem Grow.refl {m : Option Nat} (d : Option Tmp) (σ : Sig) : Grow m d σ σ := ⟨rfl, Nat.le_refl _, fun _ _ => rfl, fun _ _ => rfl⟩
theorem Grow.put {m : Option Nat} {σ σ' : Sig} (h : Grow m none σ σ') (d : Option Tmp) (x : AV) : Grow m d σ (σ'.put d x) := by
  cases d with
  | none => exact h
  | some d => exact ⟨h.n, h.nb, h.bl, fun t ht => (upd_other _ _ fun e => ht (by rw [e])).trans (h.tm t (by simp))⟩
theorem Grow.add {m : Option Nat} (σ : Sig) (B : OB) : Grow m none σ (σ.add B) :=
  ⟨rfl, Nat.le_succ _, fun _ hk => upd_other _ _ (Nat.ne_of_lt (Nat.lt_of_lt_of_le hk lim_le)), fun _ _ => rfl⟩

theorem put_n (σ : Sig) (d : Option Tmp) (x : AV) : (σ.put d x).n = σ.n := by cases d <;> rfl
theorem put_nb (σ : Sig) (d : Option Tmp) (x : AV) : (σ.put d x).nb = σ.nb := by cases d <;> rfl
theorem put_bl (σ : Sig) (d : Option Tmp) (x : AV) : (σ.put d x).bl = σ.bl := by cases d <;> rfl
theorem put_add (σ : Sig) (d : Option Tmp) (x : AV) (B : OB) : (σ.put d x).add B = (σ.add B).put d x := by cases d <;> rfl
theorem put_comm {σ : Sig} {d d' : Option Tmp} {x y : AV} (h : ∀ t, d = some t → d' ≠ some t) : (σ.put d x).put d' y = (σ.put d' y).put d x := by
  cases d with
  | none => rfl
  | some d => cases d' with
    | none => rfl
    | some d' =>
      simp only [Sig.put, Sig.mk.injEq, true_and, and_true]
      funext t
      by_cases h1 : t = d'
      · subst h1
        rw [upd_same, upd_other _ _ (fun e => h d rfl (by rw [e])), upd_same]
      · rw [upd_other _ _ h1]
        by_cases h2 : t = d
        · subst h2; rw [upd_same, upd_same]
        · rw [upd_other _ _ h2, upd_other _ _ h2, upd_other _ _ h1]

theorem Grow.ev {m : Option Nat} {σ σ' : Sig} {d : Option Tmp} (h : Grow m d σ σ') {x : Operand} (hx : ∀ t, x = .tmp t → d ≠ some t) : σ'.ev x = σ.ev x := by
  cases x with
  | tmp t => simp only [Sig.ev, h.n, h.tm t (hx t rfl)]
  | _ => rfl
theorem put_ev {σ : Sig} {d : Option Tmp} {v : AV} {x : Operand} (hx : ∀ t, x = .tmp t → d ≠ some t) : (σ.put d v).ev x = σ.ev x := ((Grow.refl (m := none) none σ).put d v).ev hx

/-! ### Operations that only add -/

/-- A slice that the region has made itself. -/
def freshS : Option Nat → AV → Bool
  | some m, .ns k _ _ => Nat.ble m k
  | _, _ => false

def vcUT (P : Program) (G : Cx) (m : Option Nat) (σ : Sig) (o : Oper) (k : Sig → Prop) : Prop :=
  match o.op with
  | .alloc elem =>
    match effAlloc P σ elem with
    | some (σ', r) => k (σ'.put o.dst r)
    | none => Fail o
  | .box t x =>
    match effBox σ t (σ.sv x) with
    | some (σ', r) => allP (σ.ev x).gprop (k (σ'.put o.dst r))
    | none => Fail o
  | .store _ _ _ => Fail o
  | .buildSlice t len parts =>
    if (parts.toList.map fun p => σ.sv p.2).any AV.hasOwn then Fail o
    else
      match effBuildSlice P σ t len (parts.toList.map (·.1)) (parts.toList.map fun p => σ.sv p.2) with
      | some (σ', r) => allP (gprops σ (parts.toList.map (·.2))) (k (σ'.put o.dst r))
      | none => Fail o
  | .makeSlice t l c =>
    match effMakeSlice P σ t (σ.sv l) (σ.sv c) with
    | some (ps, σ', r) => allP ((σ.ev l).gprop ++ (σ.ev c).gprop ++ ps) (k (σ'.put o.dst r))
    | none => Fail o
  | .call { callee := .value f, args, .. } =>
    match σ.sv f with
    | .fn (.func fid) nf first nc cap =>
      allP ((σ.ev f).gprop ++ gprops σ args.toList) <|
        if (fnArgs nf first (args.toList.map σ.sv) nc cap).any AV.hasOwn then Fail o
        else
          match effFre G σ fid (fnArgs nf first (args.toList.map σ.sv) nc cap) with
          | some (ps, σ', r) => allP ps (k (σ'.put o.dst r))
          | none => gcall P G none fid (fnArgs nf first (args.toList.map σ.sv) nc cap) o.type fun r => k (σ.put o.dst r)
    | _ => Fail o
  | .call { callee := .builtin .append, args, argTypes } =>
    match args.toList, argTypes.toList with
    | [s, x], [t, t'] =>
      if t = t' then
        if ((σ.sv s).hasOwn && !freshS m (σ.sv s)) = true then Fail o
        else
          match effAppend P σ t (σ.sv s) (σ.sv x) with
          | some (ps, σ', r) => allP ((σ.ev s).gprop ++ (σ.ev x).gprop ++ ps) (k (σ'.put o.dst r))
          | none => Fail o
      else Fail o
    | _, _ => Fail o
  | op =>
    match detOp P σ.bl σ.ev op with
    | some (ps, r) => allP ps (k (σ.put o.dst r))
    | none => Fail o

def vcOpT (P : Program) (G : Cx) (m : Option Nat) (ops : List Oper) (o : Oper) (σ : Sig) (k : Sig → Prop) : Prop :=
  match o.guard with
  | none => vcUT P G m σ o k
  | some (j, want) =>
    match guardAV ops σ j want with
    | some g =>
      match G.conc && !g with
      | true => k (σ.put o.dst (.gd false (offAV P o.type)))
      | false => vcG P G g σ o k
    | none => Fail o

end Go.Sx
