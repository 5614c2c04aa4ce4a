/- Regions whose operations come in any order: what only computes or reads may be taken first. -/
import Derived.Test.YtdkpceodckdcfaaGreatDoorSxK
set_option linter.unusedSimpArgs false
set_option linter.unusedVariables false
namespace Go.Sx
open Go Go.RowKit
def AV.top : AV → Option Nat
 | .np k _ | .ns k _ _ | .ap k _ _ => some k
 | _ => none
section
variable {P : Program} {bl bl' : Nat → OB}
theorem loadAV_congr {sh : Option Nat} {x : AV} (h : ∀ k, x.top = some k → bl' k = bl k) : loadAV bl' sh x = loadAV bl sh x := by
 cases x <;> simp only [loadAV] <;> rw [h _ rfl]
theorem loadRows_congr {sh : Option Nat} {x : AV} (h : ∀ k, x.top = some k → bl' k = bl k) : loadRows bl' sh x = loadRows bl sh x := by
 cases x <;> first | rfl | (simp only [loadRows]; rw [h _ rfl])
theorem nilAV_congr {x : AV} (h : ∀ k, x.top = some k → bl' k = bl k) : nilAV bl' x = nilAV bl x := by
 cases x <;> simp only [nilAV] <;> first | rw [h _ rfl] | (split <;> first | rfl | (rename_i e; cases e) | simp_all)
theorem strAV_congr {P : Program} {bl bl' : Nat → OB} {s d : TypeId} {x : AV} (h : ∀ k, x.top = some k → bl' k = bl k) : strAV P bl' s d x = strAV P bl s d x := by
 have e : srcAV bl' 1 x = srcAV bl 1 x := by
  cases x <;> first | rfl | skip
  rename_i k off m
  unfold srcAV
  simp only [h k rfl]
 unfold strAV
 rw [e]
theorem shift_congr {x : AV} {d : Nat} (h : ∀ k, x.top = some k → bl' k = bl k) : x.shift bl' d = x.shift bl d := by
 cases x <;> simp only [AV.shift] <;> rw [h _ rfl]
theorem indexAddr_congr {t : TypeId} {x ix : AV} (h : ∀ k, x.top = some k → bl' k = bl k) : indexAddrAV P bl' t x ix = indexAddrAV P bl t x ix := by
 unfold indexAddrAV
 split
 ·split
  ·cases x with
   | ns k off len => have e := h k rfl; cases P.info? _ <;> simp only [e]
   | _ => cases P.info? _ <;> rfl
  ·cases x with
   | ap k i j => have e := h k rfl; cases P.info? _ <;> cases j <;> simp only [e]
   | np k off => have e := h k rfl; cases P.info? _ <;> simp only [e]
   | _ => cases P.info? _ <;> rfl
  ·rfl
 ·rfl
theorem slice_congr {t : TypeId} {x : AV} {lo hi mx : Option AV} (h : ∀ k, x.top = some k → bl' k = bl k) : sliceAV P bl' t x lo hi mx = sliceAV P bl t x lo hi mx := by
 unfold sliceAV
 rcases P.underlying t with _ | u
 ·rfl
 ·cases u with
  | string =>
   cases x with
   | str l => rcases optInt lo with _ | (_ | _) <;> rcases optInt hi with _ | (_ | _) <;> rcases optInt mx with _ | (_ | _) <;> rfl
   | _ => rfl
  | slice e =>
   cases x with
   | ns k off len =>
    have e := h k rfl
    rcases optInt lo with _ | (_ | _) <;> rcases optInt hi with _ | (_ | _) <;> rcases optInt mx with _ | (_ | _) <;> first | rfl | simp only [e]
   | xl => rcases optInt lo with _ | (_ | _) <;> rcases optInt hi with _ | (_ | _) <;> rcases optInt mx with _ | (_ | _) <;> rfl
   | _ => rfl
  | _ => rfl
theorem len_congr {t : TypeId} {x : AV} (h : ∀ k, x.top = some k → bl' k = bl k) : lenAV P bl' t x = lenAV P bl t x := by
 unfold lenAV
 rcases P.underlying t with _ | u
 ·rfl
 ·cases x with
  | ns k off len =>
   have e := h k rfl
   cases u <;> first | rfl | simp only [e]
  | v x => cases u <;> cases x <;> rfl
  | _ => cases u <;> rfl
theorem bi_congr {b : Builtin} {ts : List TypeId} {xs : List AV} (h : ∀ x ∈ xs, ∀ k, x.top = some k → bl' k = bl k) : biAV P bl' b ts xs = biAV P bl b ts xs := by
 unfold biAV
 split <;> first | rfl | exact len_congr (h _ (by simp))
theorem sliceZ_congr {x : AV} (h : ∀ k, x.top = some k → bl' k = bl k) : sliceZ bl' x = sliceZ bl x := by
 unfold sliceZ
 cases x with
 | ns k off len => simp only [h k rfl]
 | _ => rfl
theorem binX_congr {op : BinOp} {t : TypeId} {x y : AV} (h1 : ∀ k, x.top = some k → bl' k = bl k) (h2 : ∀ k, y.top = some k → bl' k = bl k) : binX P bl' op t x y = binX P bl op t x y := by
 unfold binX bin2AV
 rw [sliceZ_congr h1]
 cases y with
 | np k' o' => simp only [h2 k' rfl]
 | v u =>
  cases u with
  | slice o n c => cases o <;> cases n <;> cases c <;> rfl
  | pointer p => cases p <;> rfl
  | _ => rfl
 | _ => rfl
theorem det_congr {ev ev' : Operand → AV} {o : Op} (he : ∀ x ∈ o.operands, ev' x = ev x) (hb : ∀ x ∈ o.operands, ∀ k, (ev x).strip.top = some k → bl' k = bl k) :
  detOp P bl' ev' o = detOp P bl ev o := by
 have hg : ((ops1 o).flatMap fun x => (ev' x).gprop) = (ops1 o).flatMap fun x => (ev x).gprop := by
  rw [List.flatMap_def, List.flatMap_def]
  congr 1
  refine List.map_congr_left fun x hx => ?_
  rw [he x]
  cases o <;> first | exact Array.mem_toList_iff.1 hx | cases hx
 have hr : detRaw P bl' ev' (fun x => (ev' x).strip) o = detRaw P bl ev (fun x => (ev x).strip) o := by
  have hm : ∀ l : List Operand, (∀ x ∈ l, x ∈ o.operands) → l.map (fun x => (ev' x).strip) = l.map fun x => (ev x).strip := fun l hl => List.map_congr_left fun x hx => by rw [he x (hl x hx)]
  have ho : ∀ l : Option Operand, (∀ x, l = some x → x ∈ o.operands) → l.map (fun x => (ev' x).strip) = l.map fun x => (ev x).strip := fun l hl => by
   cases l with
   | none => rfl
   | some x => simp only [Option.map_some, he x (hl x rfl)]
  cases o with
  | move x => simp only [detRaw, he x (by simp [Op.operands])]
  | assign x => simp only [detRaw, he x (by simp [Op.operands])]
  | pick c a b => simp only [detRaw, he c (by simp [Op.operands]), he a (by simp [Op.operands]), he b (by simp [Op.operands])]
  | load t x =>
   have h := hb x (by simp [Op.operands])
   simp only [detRaw, he x (by simp [Op.operands]), loadAV_congr h, loadRows_congr h]
  | nilCheck x =>
   have h := hb x (by simp [Op.operands])
   simp only [detRaw, he x (by simp [Op.operands]), nilAV_congr h]
  | binOp op t x y t' =>
   have h1 := hb x (by simp [Op.operands])
   have h2 := hb y (by simp [Op.operands])
   simp only [detRaw, he x (by simp [Op.operands]), he y (by simp [Op.operands]), binX_congr h1 h2]
  | build t parts =>
   have : (parts.toList.map fun p => (p.1, (ev' p.2).strip)) = parts.toList.map fun p => (p.1, (ev p.2).strip) := List.map_congr_left fun p hp => by
    rw [he p.2 (by simp only [Op.operands, List.mem_toArray, List.mem_map]; exact ⟨p, hp, rfl⟩)]
   simp only [detRaw, this]
  | unOp op t x => simp only [detRaw, he x (by simp [Op.operands])]
  | convert s d x =>
   have h := hb x (by simp [Op.operands])
   simp only [detRaw, he x (by simp [Op.operands]), strAV_congr h]
  | makeFunc f a b =>
   simp only [detRaw, hm a.toList fun x hx => by simp only [Op.operands, Array.mem_append]; exact .inl (Array.mem_toList_iff.1 hx),
    hm b.toList fun x hx => by simp only [Op.operands, Array.mem_append]; exact .inr (Array.mem_toList_iff.1 hx)]
  | slice t x a b c =>
   have h := hb x (by simp [Op.operands])
   simp only [detRaw, he x (by simp [Op.operands]), slice_congr h, ho a fun x hx => by simp [Op.operands, hx], ho b fun x hx => by simp [Op.operands, hx],
    ho c fun x hx => by simp [Op.operands, hx]]
  | fieldAddr t x f =>
   have h := hb x (by simp [Op.operands])
   simp only [detRaw, he x (by simp [Op.operands]), shift_congr h]
  | field t x f => simp only [detRaw, he x (by simp [Op.operands])]
  | indexAddr t x i =>
   have h := hb x (by simp [Op.operands])
   simp only [detRaw, he x (by simp [Op.operands]), he i (by simp [Op.operands]), indexAddr_congr h]
  | index t x i => simp only [detRaw, he x (by simp [Op.operands]), he i (by simp [Op.operands])]
  | extract x i => simp only [detRaw, he x (by simp [Op.operands])]
  | call c =>
   obtain ⟨cal, args, ts⟩ := c
   cases cal with
   | builtin b =>
    have hin : ∀ x ∈ args.toList, x ∈ (Op.call ⟨.builtin b, args, ts⟩).operands := fun x hx => by simpa [Op.operands, Call.operands] using hx
    simp only [detRaw, hm _ hin]
    rw [bi_congr]
    intro x hx k hk
    obtain ⟨y, hy, rfl⟩ := List.mem_map.1 hx
    exact hb y (hin y hy) k hk
   | _ => rfl
  | _ => rfl
 unfold detOp
 rw [hr, hg]
end
def lim : Option Nat → Nat → Nat
 | none, n => n
 | some m, n => bif Nat.ble m n then m else n
theorem lim_eq (m n : Nat) : lim (some m) n = if m ≤ n then m else n := by
 show (bif Nat.ble m n then m else n) = _
 by_cases h : m ≤ n
 ·rw [if_pos h, Nat.ble_eq_true_of_le h]; rfl
 ·rw [if_neg h]
  cases hb : Nat.ble m n with
  | true => exact absurd (Nat.le_of_ble_eq_true hb) h
  | false => rfl
theorem lim_le {m : Option Nat} {n : Nat} : lim m n ≤ n := by
 cases m with
 | none => exact Nat.le_refl _
 | some m => rw [lim_eq]; split <;> omega
theorem lim_some {m n : Nat} : lim (some m) n ≤ m := by rw [lim_eq]; split <;> omega
theorem lim_mono {m : Option Nat} {n n' : Nat} (h : n ≤ n') : lim m n ≤ lim m n' := by
 cases m with
 | none => exact h
 | some m => rw [lim_eq, lim_eq]; split <;> split <;> omega
structure Grow (m : Option Nat) (d : Option Tmp) (σ σ' : Sig) : Prop where
 n : σ'.n = σ.n
 nb : σ.nb ≤ σ'.nb
 bl : ∀ k, k < lim m σ.nb → σ'.bl k = σ.bl k
 tm : ∀ t, d ≠ some t → σ'.tm t = σ.tm t
theorem Grow.refl {m : Option Nat} (d : Option Tmp) (σ : Sig) : Grow m d σ σ := ⟨rfl, Nat.le_refl _, fun _ _ => rfl, fun _ _ => rfl⟩
theorem Grow.put {m : Option Nat} {σ σ' : Sig} (h : Grow m none σ σ') (d : Option Tmp) (x : AV) : Grow m d σ (σ'.put d x) := by
 cases d with
 | none => exact h
 | some d => exact ⟨h.n, h.nb, h.bl, fun t ht => (upd_other _ _ fun e => ht (by rw [e])).trans (h.tm t (by simp))⟩
theorem Grow.add {m : Option Nat} (σ : Sig) (B : OB) : Grow m none σ (σ.add B) :=
 ⟨rfl, Nat.le_succ _, fun _ hk => upd_other _ _ (Nat.ne_of_lt (Nat.lt_of_lt_of_le hk lim_le)), fun _ _ => rfl⟩
theorem put_nb (σ : Sig) (d : Option Tmp) (x : AV) : (σ.put d x).nb = σ.nb := by cases d <;> rfl
theorem put_bl (σ : Sig) (d : Option Tmp) (x : AV) : (σ.put d x).bl = σ.bl := by cases d <;> rfl
theorem put_add (σ : Sig) (d : Option Tmp) (x : AV) (B : OB) : (σ.put d x).add B = (σ.add B).put d x := by cases d <;> rfl
theorem put_comm {σ : Sig} {d d' : Option Tmp} {x y : AV} (h : ∀ t, d = some t → d' ≠ some t) : (σ.put d x).put d' y = (σ.put d' y).put d x := by
 cases d with
 | none => rfl
 | some d => cases d' with
  | none => rfl
  | some d' =>
   simp only [Sig.put, Sig.mk.injEq, true_and, and_true]
   funext t
   by_cases h1 : t = d'
   ·subst h1
    rw [upd_same, upd_other _ _ (fun e => h d rfl (by rw [e])), upd_same]
   ·rw [upd_other _ _ h1]
    by_cases h2 : t = d
    ·subst h2; rw [upd_same, upd_same]
    ·rw [upd_other _ _ h2, upd_other _ _ h2, upd_other _ _ h1]
theorem Grow.ev {m : Option Nat} {σ σ' : Sig} {d : Option Tmp} (h : Grow m d σ σ') {x : Operand} (hx : ∀ t, x = .tmp t → d ≠ some t) : σ'.ev x = σ.ev x := by
 cases x with
 | tmp t => simp only [Sig.ev, h.n, h.tm t (hx t rfl)]
 | _ => rfl
theorem put_ev {σ : Sig} {d : Option Tmp} {v : AV} {x : Operand} (hx : ∀ t, x = .tmp t → d ≠ some t) : (σ.put d v).ev x = σ.ev x := ((Grow.refl (m := none) none σ).put d v).ev hx
def freshS : Option Nat → AV → Bool
 | some m, .ns k _ _ => Nat.ble m k
 | _, _ => false
def effLend (P : Program) (G : Cx) (σ : Sig) (o : Oper) (f : FuncId) (xs : List AV) (k : Sig → Prop) : Prop :=
 match G.own f with
 | some _ => Fail o
 | none =>
  match appRef σ.bl xs, G.fre f (xs.map (lend σ.bl)) with
  | true, some (ps, te, sz, len, els) => allP (ps ++ [.p (∀ i j, i < len → j < sz → (els i j).scalar = true)]) (k ((σ.add (.arr te sz len els)).put o.dst (.ns σ.nb 0 len)))
  | _, _ =>
   match lendable P G f (xs.map (lend σ.bl)) o.type with
   | true => callK P G none f (xs.map (lend σ.bl)) o.type fun r => k (σ.put o.dst r)
   | false => Fail o
def vcUT (P : Program) (G : Cx) (m : Option Nat) (σ : Sig) (o : Oper) (k : Sig → Prop) : Prop :=
 match o.op with
 | .alloc elem =>
  match effAlloc P σ elem with
  | some (σ', r) => k (σ'.put o.dst r)
  | none => Fail o
 | .box t x =>
  match effBox σ t (σ.sv x) with
  | some (σ', r) => allP (σ.ev x).gprop (k (σ'.put o.dst r))
  | none => Fail o
 | .store _ _ _ => Fail o
 | .buildSlice t len parts =>
  if (parts.toList.map fun p => σ.sv p.2).any AV.hasOwn then Fail o
  else
   match effBuildSlice P σ t len (parts.toList.map (·.1)) (parts.toList.map fun p => σ.sv p.2) with
   | some (σ', r) => allP (gprops σ (parts.toList.map (·.2))) (k (σ'.put o.dst r))
   | none => Fail o
 | .makeSlice t l c =>
  match effMakeSlice P σ t (σ.sv l) (σ.sv c) with
  | some (ps, σ', r) => allP ((σ.ev l).gprop ++ (σ.ev c).gprop ++ ps) (k (σ'.put o.dst r))
  | none => Fail o
 | .call { callee := .value f, args, .. } =>
  match σ.sv f with
  | .fn (.func fid) nf first nc cap =>
   allP ((σ.ev f).gprop ++ gprops σ args.toList) <|
    if (fnArgs nf first (args.toList.map σ.sv) nc cap).any AV.hasOwn then effLend P G σ o fid (fnArgs nf first (args.toList.map σ.sv) nc cap) k
    else
     match effFre G σ fid (fnArgs nf first (args.toList.map σ.sv) nc cap) with
     | some (ps, σ', r) => allP ps (k (σ'.put o.dst r))
     | none => gcall P G none fid (fnArgs nf first (args.toList.map σ.sv) nc cap) o.type fun r => k (σ.put o.dst r)
  | _ => Fail o
 | .call { callee := .builtin .append, args, argTypes } =>
  match args.toList, argTypes.toList with
  | [s, x], [t, t'] =>
   if t = t' then
    if ((σ.sv s).hasOwn && !freshS m (σ.sv s)) = true then Fail o
    else
     match effAppend P σ t (σ.sv s) (σ.sv x) with
     | some (ps, σ', r) => allP ((σ.ev s).gprop ++ (σ.ev x).gprop ++ ps) (k (σ'.put o.dst r))
     | none =>
      match effAppendA P σ t (σ.sv s) (σ.sv x) with
      | some (ps, σ', r) => allP ((σ.ev s).gprop ++ (σ.ev x).gprop ++ ps) (k (σ'.put o.dst r))
      | none => Fail o
   else Fail o
  | _, _ => Fail o
 | op =>
  match detOp P σ.bl σ.ev op with
  | some (ps, r) => allP ps (k (σ.put o.dst r))
  | none => Fail o
def vcOpT (P : Program) (G : Cx) (m : Option Nat) (ops : List Oper) (o : Oper) (σ : Sig) (k : Sig → Prop) : Prop :=
 match o.guard with
 | none => vcUT P G m σ o k
 | some (j, want) =>
  match guardAV ops σ j want with
  | some g =>
   match G.conc && !g with
   | true => k (σ.put o.dst (.gd false (offAV P o.type)))
   | false => vcG P G g σ o k
  | none => Fail o
end Go.Sx

namespace Go.Sx
open Go Go.RowKit
section
variable {P : Program} {G : Cx} {m : Option Nat} {ops : List Oper}
theorem effAlloc_grow {σ σ' : Sig} {e : TypeId} {r : AV} (h : effAlloc P σ e = some (σ', r)) : Grow m none σ σ' ∧ ∀ (d : Option Tmp) (x : AV), effAlloc P (σ.put d x) e = some (σ'.put d x, r) := by
 unfold effAlloc at h ⊢
 repeat' split at h
 all_goals first | cases h | skip
 ·rename_i hc
  refine ⟨Grow.add _ _, fun d x => ?_⟩
  simp only [put_add, put_nb, if_pos hc]
 ·rename_i hn hc
  refine ⟨Grow.add _ _, fun d x => ?_⟩
  simp only [put_add, put_nb, if_neg hn, if_pos hc]
 ·rename_i hc
  refine ⟨Grow.add _ _, fun d x => ?_⟩
  simp only [put_add, put_nb, if_pos hc]
theorem effBox_grow {σ σ' : Sig} {t : TypeId} {v r : AV} (h : effBox σ t v = some (σ', r)) : Grow m none σ σ' ∧ ∀ (d : Option Tmp) (x : AV), effBox (σ.put d x) t v = some (σ'.put d x, r) := by
 unfold effBox at h ⊢
 split at h
 ·rename_i n cs hc
  cases h
  exact ⟨Grow.add _ _, fun d x => by simp only [put_bl, put_nb, put_add, hc]⟩
 ·cases h
theorem effBuild_grow {σ σ' : Sig} {t : TypeId} {n : Nat} {idx : List Nat} {xs : List AV} {r : AV} (h : effBuildSlice P σ t n idx xs = some (σ', r)) :
  Grow m none σ σ' ∧ ∀ (d : Option Tmp) (x : AV), effBuildSlice P (σ.put d x) t n idx xs = some (σ'.put d x, r) := by
 obtain ⟨rfl, h2⟩ := effBuild_any h
 exact ⟨Grow.refl _ _, fun d x => h2 _⟩
theorem effMake_grow {σ σ' : Sig} {t : TypeId} {l c r : AV} {ps : List Cond} (h : effMakeSlice P σ t l c = some (ps, σ', r)) :
  Grow m none σ σ' ∧ ∀ (d : Option Tmp) (x : AV), effMakeSlice P (σ.put d x) t l c = some (ps, σ'.put d x, r) := by
 unfold effMakeSlice at h ⊢
 repeat' split at h
 all_goals first | cases h | skip
 rename_i hc
 refine ⟨Grow.add _ _, fun d x => ?_⟩
 simp only [put_add, put_nb, if_pos hc]
theorem effFre_grow {G : Cx} {σ σ' : Sig} {f : FuncId} {xs : List AV} {r : AV} {ps : List Cond} (h : effFre G σ f xs = some (ps, σ', r)) :
  Grow m none σ σ' ∧ ∀ d x, effFre G (σ.put d x) f xs = some (ps, σ'.put d x, r) := by
 unfold effFre at h ⊢
 split at h
 ·rename_i hf
  cases h
  exact ⟨Grow.add _ _, fun d x => by simp only [put_add, put_nb]⟩
 ·cases h
theorem effFre_none {G : Cx} {σ : Sig} {d : Option Tmp} {x : AV} {f : FuncId} {xs : List AV} (h : effFre G (σ.put d x) f xs = none) : effFre G σ f xs = none := by
 unfold effFre at h ⊢
 split at h
 ·cases h
 ·rfl
theorem not_own {m : Option Nat} {x : AV} (h : ¬ ((x.hasOwn && !freshS m x) = true)) : x.hasOwn = false ∨ freshS m x = true := by
 cases h1 : x.hasOwn with
 | false => exact .inl rfl
 | true =>
  cases h2 : freshS m x with
  | true => exact .inr rfl
  | false => rw [h1, h2] at h; exact (h rfl).elim
theorem effAppend_grow {σ σ' : Sig} {t : TypeId} {s v r : AV} {ps : List Cond} (hs : s.hasOwn = false ∨ freshS m s = true) (h : effAppend P σ t s v = some (ps, σ', r)) :
  Grow m none σ σ' ∧ ∀ (d : Option Tmp) (x : AV), effAppend P (σ.put d x) t s v = some (ps, σ'.put d x, r) := by
 unfold effAppend at h ⊢
 repeat' split at h
 all_goals first | cases h | skip
 ·refine ⟨Grow.add _ _, fun d x => ?_⟩
  simp only [put_add, put_nb, put_bl]
  simp_all
 ·refine ⟨⟨rfl, Nat.le_refl _, fun k' _ => rfl, fun _ _ => rfl⟩, fun d x => ?_⟩
  simp only [put_bl]
  simp_all
 ·refine ⟨Grow.add _ _, fun d x => ?_⟩
  simp only [put_add, put_nb, put_bl]
  simp_all
 ·rename_i k n _ _ _ _ _ _ hcc
  have hm : ∀ k', k' < lim m σ.nb → k' ≠ k := by
   rcases hs with hs | hs
   ·cases hs
   ·cases m with
    | none => cases hs
    | some m' =>
     have h1 : m' ≤ k := Nat.le_of_ble_eq_true hs
     intro k' hk'
     have := lim_some (m := m') (n := σ.nb)
     omega
  refine ⟨⟨rfl, Nat.le_succ _, fun k' hk' => ?_, fun _ _ => rfl⟩, fun d x => ?_⟩
  ·show upd (upd σ.bl k .dead) σ.nb _ k' = _
   rw [upd_other _ _ (Nat.ne_of_lt (Nat.lt_of_lt_of_le hk' lim_le)), upd_other _ _ (hm k' hk')]
  ·simp only [put_nb, put_bl]
   cases d <;> simp_all [Sig.put]
theorem fresh_ne {k n l nb k' : Nat} (hs : (AV.ns k n l).hasOwn = false ∨ freshS m (.ns k n l) = true) (hk' : k' < lim m nb) : k' ≠ k := by
 rcases hs with hs | hs
 ·cases hs
 ·cases m with
  | none => cases hs
  | some m' =>
   have h1 : m' ≤ k := Nat.le_of_ble_eq_true hs
   have := lim_some (m := m') (n := nb)
   omega
theorem effAppendA_grow {σ σ' : Sig} {t : TypeId} {s v r : AV} {ps : List Cond} (hs : s.hasOwn = false ∨ freshS m s = true) (h : effAppendA P σ t s v = some (ps, σ', r)) :
  Grow m none σ σ' ∧ ∀ (d : Option Tmp) (x : AV), effAppendA P (σ.put d x) t s v = some (ps, σ'.put d x, r) := by
 unfold effAppendA at h ⊢
 repeat' split at h
 all_goals first | cases h | skip
 all_goals
  refine ⟨⟨rfl, Nat.le_succ _, fun k' hk' => ?_, fun _ _ => rfl⟩, fun d x => ?_⟩
  ·show upd (upd σ.bl _ .dead) σ.nb _ k' = _
   rw [upd_other _ _ (Nat.ne_of_lt (Nat.lt_of_lt_of_le hk' lim_le)), upd_other _ _ (fresh_ne hs hk')]
  ·simp only [put_nb, put_bl]
   cases d <;> simp_all [Sig.put] <;> (rename_i hh; obtain ⟨_, _, h1, _, _, _, h2⟩ := hh; omega)
def old (σ : Sig) : Option Tmp → AV
 | some t => σ.tm t
 | none => .junk
theorem put_old (σ : Sig) (d : Option Tmp) (x : AV) : (σ.put d x).put d (old σ d) = σ := by
 cases d with
 | none => rfl
 | some d =>
  obtain ⟨n, tm, nb, bl⟩ := σ
  simp only [Sig.put, old, Sig.mk.injEq, true_and, and_true]
  funext t
  by_cases h : t = d
  ·subst h; rw [upd_same]
  ·rw [upd_other _ _ h, upd_other _ _ h]
theorem old_put {σ σ1 : Sig} {d : Option Tmp} {x : AV} (h : Grow m none (σ.put d x) σ1) : (σ1.put d (old σ d)).put d x = σ1 := by
 cases d with
 | none => rfl
 | some d =>
  have h1 := h.tm d (by simp)
  obtain ⟨n, tm, nb, bl⟩ := σ1
  simp only [Sig.put, upd_same] at h1
  simp only [Sig.put, old, Sig.mk.injEq, true_and, and_true]
  funext t
  by_cases e : t = d
  ·subst e; rw [upd_same, h1]
  ·rw [upd_other _ _ e, upd_other _ _ e]
theorem back2 {f : Sig → Option (Sig × AV)} (hf : ∀ σ σ' r, f σ = some (σ', r) → Grow m none σ σ' ∧ ∀ d x, f (σ.put d x) = some (σ'.put d x, r)) {σ σ1 : Sig} {d : Option Tmp} {x r : AV}
  (h : f (σ.put d x) = some (σ1, r)) : ∃ σ', f σ = some (σ', r) ∧ Grow m none σ σ' ∧ σ1 = σ'.put d x := by
 obtain ⟨h1, h2⟩ := hf _ _ _ h
 have h3 := h2 d (old σ d)
 rw [put_old] at h3
 exact ⟨_, h3, (hf _ _ _ h3).1, (old_put h1).symm⟩
theorem back3 {f : Sig → Option (List Cond × Sig × AV)} (hf : ∀ σ ps σ' r, f σ = some (ps, σ', r) → Grow m none σ σ' ∧ ∀ d x, f (σ.put d x) = some (ps, σ'.put d x, r)) {σ σ1 : Sig} {d : Option Tmp} {x r : AV} {ps : List Cond}
  (h : f (σ.put d x) = some (ps, σ1, r)) : ∃ σ', f σ = some (ps, σ', r) ∧ Grow m none σ σ' ∧ σ1 = σ'.put d x := by
 obtain ⟨h1, h2⟩ := hf _ _ _ _ h
 have h3 := h2 d (old σ d)
 rw [put_old] at h3
 exact ⟨_, h3, (hf _ _ _ _ h3).1, (old_put h1).symm⟩
theorem grow_put_put {σ σ' : Sig} {d d' : Option Tmp} {x y : AV} {K : Sig → Prop} (h : Grow m none σ σ') (hd : ∀ t, d = some t → d' ≠ some t) (hK : K ((σ'.put d x).put d' y)) :
  Grow m d' σ (σ'.put d' y) ∧ K ((σ'.put d' y).put d x) := ⟨h.put d' y, by rw [put_comm hd] at hK; exact hK⟩
theorem guard_put {σ : Sig} {d : Option Tmp} {x : AV} {j : Nat} {want : Bool} (h : ∀ t, d = some t → (ops[j]?).bind (·.dst) ≠ some t) : guardAV ops (σ.put d x) j want = guardAV ops σ j want := by
 unfold guardAV
 cases ho : ops[j]? with
 | none => rfl
 | some o =>
  simp only
  cases hd : o.dst with
  | none => rfl
  | some t =>
   simp only
   cases d with
   | none => rfl
   | some d =>
    have hne : t ≠ d := fun e => h d rfl (by rw [ho, Option.bind_some, hd, e])
    simp only [Sig.put, upd_other _ _ hne]
theorem exList_mono {ex : TypeId → (AV → Prop) → Prop} (hex : ∀ t k k', (∀ r, k r → k' r) → ex t k → ex t k') : ∀ (ts : List TypeId) (k k' : List AV → Prop), (∀ r, k r → k' r) → exList ex ts k → exList ex ts k'
 | [], _, _, h, hk => h _ hk
 | _ :: ts, _, _, h, hk => hex _ _ _ (fun _ hv => exList_mono hex ts _ _ (fun _ hr => h _ hr) hv) hk
theorem exAV_mono : ∀ (n : Nat) (t : TypeId) (k k' : AV → Prop), (∀ r, k r → k' r) → exAV P n t k → exAV P n t k'
 | 0, _, _, _, h, ⟨r, hr⟩ => ⟨r, h _ hr⟩
 | n + 1, t, k, k', h, hk => by
  unfold exAV at hk ⊢
  split at hk
  ·obtain ⟨x, hx⟩ := hk; exact ⟨x, h _ hx⟩
  ·obtain ⟨x, hx⟩ := hk; exact ⟨x, h _ hx⟩
  ·obtain ⟨x, hx⟩ := hk; exact ⟨x, h _ hx⟩
  ·obtain ⟨f, sz, len, els, hx⟩ := hk; exact ⟨f, sz, len, els, h _ hx⟩
  ·exact exList_mono (exAV_mono n) _ _ _ (fun r hr => h _ hr) hk
  ·obtain ⟨r, hr⟩ := hk; exact ⟨r, h _ hr⟩
theorem allP_mono {ps : List Cond} {k k' : Prop} (h : k → k') (hp : allP ps k) : allP ps k' := by
 rw [allP_iff] at hp ⊢
 exact ⟨hp.1, h hp.2⟩
theorem gimp_mono {g : Bool} {ps : List Cond} {k k' : Prop} (h : k → k') (hp : gimp g ps k) : gimp g ps k' := by
 rw [gimp_iff] at hp ⊢
 exact ⟨hp.1, h hp.2⟩
theorem looks_op {o : Oper} {d : Option Tmp} (h : ∀ t, d = some t → t ∉ o.looksAt ops.toArray) : ∀ x ∈ o.op.operands, ∀ t, x = .tmp t → d ≠ some t := fun x hx t hxt hd =>
 h t hd (List.mem_append_left _ (List.mem_filterMap.2 ⟨x, Array.mem_toList_iff.2 hx, by rw [hxt]⟩))
theorem looks_guard {o : Oper} {d : Option Tmp} {j : Nat} {want : Bool} (h : ∀ t, d = some t → t ∉ o.looksAt ops.toArray) (hg : o.guard = some (j, want)) :
  ∀ t, d = some t → (ops[j]?).bind (·.dst) ≠ some t := fun t hd he =>
 h t hd (List.mem_append_right _ (by rw [hg]; simp only [List.getElem?_toArray]; rw [he]; simp))
theorem callP_mono {g : Option Bool} {ps : List Cond} {k k' : Prop} (h : k → k') (hp : callP g ps k) : callP g ps k' := by
 cases g with
 | none => exact allP_mono h hp
 | some g => exact gimp_mono h hp
theorem callK_mono {P : Program} {G : Cx} {g : Option Bool} {f : FuncId} {xs : List AV} {t : TypeId} {K K' : AV → Prop} (h : ∀ r, K r → K' r) (hk : callK P G g f xs t K) : callK P G g f xs t K' := by
 unfold callK at hk ⊢
 split at hk
 ·exact callP_mono (h _) hk
 ·exact exAV_mono 3 _ _ _ (fun r hr => ⟨hr.1, h r hr.2⟩) hk
theorem gcall_mono {P : Program} {G : Cx} {g : Option Bool} {f : FuncId} {xs : List AV} {t : TypeId} {K K' : AV → Prop} (h : ∀ r, K r → K' r) (hk : gcall P G g f xs t K) : gcall P G g f xs t K' := by
 unfold gcall at hk ⊢
 split at hk
 ·split at hk
  ·exact h _ hk
  ·exact hk.elim
 ·exact callK_mono h hk
theorem gprops_congr {σ σ' : Sig} {l : List Operand} (h : ∀ x ∈ l, σ'.ev x = σ.ev x) : gprops σ' l = gprops σ l := by
 unfold gprops
 rw [List.flatMap_def, List.flatMap_def]
 congr 1
 exact List.map_congr_left fun x hx => by rw [h x hx]
theorem sv_congr {σ σ' : Sig} {x : Operand} (h : σ'.ev x = σ.ev x) : σ'.sv x = σ.sv x := by unfold Sig.sv; rw [h]
theorem effLend_put {σ : Sig} {o : Oper} {d : Option Tmp} {x : AV} {f : FuncId} {xs : List AV} {K : Sig → Prop} (h2 : ∀ t, d = some t → o.dst ≠ some t) (h : effLend P G (σ.put d x) o f xs K) :
  effLend P G σ o f xs fun σ' => Grow m o.dst σ σ' ∧ K (σ'.put d x) := by
 unfold effLend at h ⊢
 simp only [put_bl, put_nb, put_add] at h
 split at h
 ·exact h.elim
 ·split at h
  ·refine allP_mono (fun h => ?_) h
   refine ⟨(Grow.add σ _).put _ _, ?_⟩
   rw [put_comm h2] at h
   exact h
  ·split at h
   ·rename_i hl
    refine callK_mono (fun r hk => ?_) h
    exact grow_put_put (Grow.refl none σ) h2 hk
   ·exact h.elim
theorem effLend_mono {σ : Sig} {o : Oper} {f : FuncId} {xs : List AV} {K K' : Sig → Prop} (hk : ∀ σ, K σ → K' σ) (h : effLend P G σ o f xs K) : effLend P G σ o f xs K' := by
 unfold effLend at h ⊢
 split at h
 ·exact h.elim
 ·split at h
  ·exact allP_mono (hk _) h
  ·split at h
   ·exact callK_mono (fun r h => hk _ h) h
   ·exact h.elim
theorem vcUT_put {σ : Sig} {o : Oper} {d : Option Tmp} {x : AV} {K : Sig → Prop} (h1 : ∀ x ∈ o.op.operands, ∀ t, x = .tmp t → d ≠ some t) (h2 : ∀ t, d = some t → o.dst ≠ some t)
  (h : vcUT P G m (σ.put d x) o K) : vcUT P G m σ o fun σ' => Grow m o.dst σ σ' ∧ K (σ'.put d x) := by
 have hev : ∀ y ∈ o.op.operands, (σ.put d x).ev y = σ.ev y := fun y hy => put_ev (h1 y hy)
 have hsv : ∀ y ∈ o.op.operands, (σ.put d x).sv y = σ.sv y := fun y hy => sv_congr (hev y hy)
 have gr : ∀ r, K ((σ.put d x).put o.dst r) → Grow m o.dst σ (σ.put o.dst r) ∧ K ((σ.put o.dst r).put d x) := fun r hk => grow_put_put (Grow.refl none σ) h2 hk
 unfold vcUT at h ⊢
 split at h
 ·rename_i e ho
  simp only
  split at h
  ·rename_i σ1 r he
   obtain ⟨σ', g1, g2, rfl⟩ := back2 (f := fun σ => effAlloc P σ e) (fun _ _ _ h => effAlloc_grow h) he
   simp only [g1]
   exact grow_put_put g2 h2 h
  ·exact h.elim
 ·rename_i t y ho
  have e1 := hev y (by rw [ho]; simp [Op.operands])
  have e2 := hsv y (by rw [ho]; simp [Op.operands])
  simp only [e1, e2] at h
  simp only
  split at h
  ·rename_i σ1 r he
   obtain ⟨σ', g1, g2, rfl⟩ := back2 (f := fun s => effBox s t (σ.sv y)) (fun _ _ _ h => effBox_grow h) he
   simp only [g1]
   exact allP_mono (grow_put_put g2 h2) h
  ·exact h.elim
 ·exact h.elim
 ·rename_i t n parts ho
  have hin : ∀ p ∈ parts.toList, p.2 ∈ o.op.operands := fun p hp => by rw [ho]; simp only [Op.operands, List.mem_toArray, List.mem_map]; exact ⟨p, hp, rfl⟩
  have e1 : (parts.toList.map fun p => (σ.put d x).sv p.2) = parts.toList.map fun p => σ.sv p.2 := List.map_congr_left fun p hp => hsv _ (hin p hp)
  have e2 : gprops (σ.put d x) (parts.toList.map (·.2)) = gprops σ (parts.toList.map (·.2)) := gprops_congr fun y hy => by
   obtain ⟨p, hp, rfl⟩ := List.mem_map.1 hy
   exact hev _ (hin p hp)
  simp only [e1, e2] at h
  simp only
  split at h
  ·exact h.elim
  ·rename_i hno
   rw [if_neg hno]
   split at h
   ·rename_i σ1 r he
    obtain ⟨σ', g1, g2, rfl⟩ := back2 (f := fun s => effBuildSlice P s t n (parts.toList.map fun p : Nat × Operand => p.1) (parts.toList.map fun p : Nat × Operand => σ.sv p.2)) (fun _ _ _ h => effBuild_grow h) he
    simp only [g1]
    exact allP_mono (grow_put_put g2 h2) h
   ·exact h.elim
 ·rename_i t l c ho
  have e1 := hev l (by rw [ho]; simp [Op.operands])
  have e2 := hev c (by rw [ho]; simp [Op.operands])
  simp only [e1, e2, sv_congr e1, sv_congr e2] at h
  simp only
  split at h
  ·rename_i ps σ1 r he
   obtain ⟨σ', g1, g2, rfl⟩ := back3 (f := fun s => effMakeSlice P s t (σ.sv l) (σ.sv c)) (fun _ _ _ _ h => effMake_grow h) he
   simp only [g1]
   exact allP_mono (grow_put_put g2 h2) h
  ·exact h.elim
 ·rename_i f args ts ho
  have e1 := hev f (by rw [ho]; simp [Op.operands, Call.operands])
  have hin : ∀ y ∈ args.toList, y ∈ o.op.operands := fun y hy => by rw [ho]; simp only [Op.operands, Call.operands, Array.mem_append]; exact .inr (Array.mem_toList_iff.1 hy)
  have e2 : args.toList.map (σ.put d x).sv = args.toList.map σ.sv := List.map_congr_left fun y hy => hsv _ (hin y hy)
  have e3 : gprops (σ.put d x) args.toList = gprops σ args.toList := gprops_congr fun y hy => hev _ (hin y hy)
  simp only [e1, e2, e3, sv_congr e1] at h
  simp only
  split at h
  ·refine allP_mono (fun h => ?_) h
   split at h
   ·rename_i hown
    rw [if_pos hown]
    exact effLend_put h2 h
   ·rename_i hno
    rw [if_neg hno]
    split at h
    ·rename_i ps σ1 r he
     obtain ⟨σ', g1, g2, rfl⟩ := back3 (f := fun u => effFre G u _ _) (fun _ _ _ _ h => effFre_grow h) he
     simp only [g1]
     exact allP_mono (grow_put_put g2 h2) h
    ·rename_i he
     rw [effFre_none he]
     exact gcall_mono gr h
  ·exact h.elim
 ·rename_i args ts ho
  have hin : ∀ y ∈ args.toList, y ∈ o.op.operands := fun y hy => by rw [ho]; simp only [Op.operands, Call.operands, Array.mem_append]; exact .inr (Array.mem_toList_iff.1 hy)
  simp only
  split at h
  ·rename_i s y t t' ha ht
   have e1 := hev s (hin s (by rw [ha]; simp))
   have e2 := hev y (hin y (by rw [ha]; simp))
   simp only [e1, e2, sv_congr e1, sv_congr e2] at h
   split at h
   ·rename_i htt
    rw [if_pos htt]
    split at h
    ·exact h.elim
    ·rename_i hno
     rw [if_neg hno]
     split at h
     ·rename_i ps σ1 r he
      obtain ⟨σ', g1, g2, rfl⟩ := back3 (f := fun u => effAppend P u t (σ.sv s) (σ.sv y)) (fun _ _ _ _ h => effAppend_grow (not_own hno) h) he
      simp only [g1]
      exact allP_mono (grow_put_put g2 h2) h
     ·rename_i he0
      have e0 : effAppend P σ t (σ.sv s) (σ.sv y) = none := by
       cases h0 : effAppend P σ t (σ.sv s) (σ.sv y) with
       | none => rfl
       | some q =>
        obtain ⟨ps, σ1, r⟩ := q
        rw [(effAppend_grow (not_own hno) h0).2 d x] at he0
        cases he0
      rw [e0]
      split at h
      ·rename_i ps σ1 r he
       obtain ⟨σ', g1, g2, rfl⟩ := back3 (f := fun u => effAppendA P u t (σ.sv s) (σ.sv y)) (fun _ _ _ _ h => effAppendA_grow (not_own hno) h) he
       simp only [g1]
       exact allP_mono (grow_put_put g2 h2) h
      ·exact h.elim
   ·exact h.elim
  ·exact h.elim
 ·have e : detOp P (σ.put d x).bl (σ.put d x).ev o.op = detOp P σ.bl σ.ev o.op := det_congr hev fun _ _ _ _ => by rw [put_bl]
  rw [e] at h
  split at h
  ·rename_i ps r he
   exact allP_mono (gr r) h
  ·exact h.elim
theorem vcG_put {g : Bool} {σ : Sig} {o : Oper} {d : Option Tmp} {x : AV} {K : Sig → Prop} (h1 : ∀ x ∈ o.op.operands, ∀ t, x = .tmp t → d ≠ some t) (h2 : ∀ t, d = some t → o.dst ≠ some t)
  (h : vcG P G g (σ.put d x) o K) : vcG P G g σ o fun σ' => Grow m o.dst σ σ' ∧ K (σ'.put d x) := by
 have hev : ∀ y ∈ o.op.operands, (σ.put d x).ev y = σ.ev y := fun y hy => put_ev (h1 y hy)
 have hsv : ∀ y ∈ o.op.operands, (σ.put d x).sv y = σ.sv y := fun y hy => sv_congr (hev y hy)
 have gr : ∀ r, K ((σ.put d x).put o.dst r) → Grow m o.dst σ (σ.put o.dst r) ∧ K ((σ.put o.dst r).put d x) := fun r hk => grow_put_put (Grow.refl none σ) h2 hk
 unfold vcG at h ⊢
 split at h
 ·rename_i f args ts ho
  have e1 := hev f (by rw [ho]; simp [Op.operands, Call.operands])
  have hin : ∀ y ∈ args.toList, y ∈ o.op.operands := fun y hy => by rw [ho]; simp only [Op.operands, Call.operands, Array.mem_append]; exact .inr (Array.mem_toList_iff.1 hy)
  have e2 : args.toList.map (σ.put d x).sv = args.toList.map σ.sv := List.map_congr_left fun y hy => hsv _ (hin y hy)
  have e3 : gprops (σ.put d x) args.toList = gprops σ args.toList := gprops_congr fun y hy => hev _ (hin y hy)
  simp only [e1, e2, e3, sv_congr e1, put_bl] at h
  simp only
  split at h
  ·refine gimp_mono (fun h => ?_) h
   split at h
   ·rename_i hno
    rw [if_pos hno]
    split at h
    ·split at h
     ·exact gr _ h
     ·exact h.elim
    ·split at h
     ·rename_i hs
      rw [if_pos hs]
      exact callK_mono (fun r hr => gr _ hr) h
     ·exact h.elim
   ·rename_i hno
    rw [if_neg hno]
    exact gcall_mono (fun r hr => gr _ hr) h
  ·exact h.elim
 ·rename_i tb lb parts ho
  have hin : ∀ p ∈ parts.toList, p.2 ∈ o.op.operands := fun p hp => by rw [ho]; simp only [Op.operands, List.mem_toArray, List.mem_map]; exact ⟨p, hp, rfl⟩
  have e1 : (parts.toList.map fun p => (σ.put d x).sv p.2) = parts.toList.map fun p => σ.sv p.2 := List.map_congr_left fun p hp => hsv _ (hin p hp)
  have e2 : gprops (σ.put d x) (parts.toList.map (·.2)) = gprops σ (parts.toList.map (·.2)) := gprops_congr fun y hy => by
   obtain ⟨p, hp, rfl⟩ := List.mem_map.1 hy
   exact hev _ (hin p hp)
  rw [e1, e2] at h
  split at h
  ·exact h.elim
  ·rename_i hno
   rw [if_neg hno]
   split at h
   ·rename_i σ1 r he
    rw [(effBuild_any he).2 σ]
    exact gimp_mono (gr _) h
   ·exact h.elim
 ·have e : detOp P (σ.put d x).bl (σ.put d x).ev o.op = detOp P σ.bl σ.ev o.op := det_congr hev fun _ _ _ _ => by rw [put_bl]
  rw [e] at h
  split at h
  ·exact gimp_mono (gr _) h
  ·exact h.elim
theorem vcOpT_put {σ : Sig} {o : Oper} {d : Option Tmp} {x : AV} {K : Sig → Prop} (h1 : ∀ t, d = some t → t ∉ o.looksAt ops.toArray) (h2 : ∀ t, d = some t → o.dst ≠ some t)
  (h : vcOpT P G m ops o (σ.put d x) K) : vcOpT P G m ops o σ fun σ' => Grow m o.dst σ σ' ∧ K (σ'.put d x) := by
 unfold vcOpT at h ⊢
 split at h
 ·exact vcUT_put (looks_op h1) h2 h
 ·rename_i j want hg
  rw [guard_put (looks_guard h1 hg)] at h
  split at h
  ·rename_i g _
   cases hc : G.conc && !g with
   | true =>
    rw [hc] at h
    exact grow_put_put (Grow.refl none σ) h2 h
   | false =>
    rw [hc] at h
    exact vcG_put (looks_op h1) h2 h
  ·exact h.elim
theorem vcUT_mono {σ : Sig} {o : Oper} {K K' : Sig → Prop} (hk : ∀ σ, K σ → K' σ) (h : vcUT P G m σ o K) : vcUT P G m σ o K' := by
 unfold vcUT at h ⊢
 split at h
 ·split at h
  ·exact hk _ h
  ·exact h
 ·split at h
  ·exact allP_mono (hk _) h
  ·exact h
 ·exact h
 ·split at h
  ·exact h.elim
  ·rename_i hno
   rw [if_neg hno]
   split at h
   ·exact allP_mono (hk _) h
   ·exact h
 ·split at h
  ·exact allP_mono (hk _) h
  ·exact h
 ·split at h
  ·refine allP_mono (fun h => ?_) h
   split at h
   ·rename_i hown
    rw [if_pos hown]
    exact effLend_mono hk h
   ·rename_i hno
    rw [if_neg hno]
    split at h
    ·exact allP_mono (hk _) h
    ·exact gcall_mono (fun r hr => hk _ hr) h
  ·exact h
 ·split at h
  ·split at h
   ·rename_i htt
    rw [if_pos htt]
    split at h
    ·exact h.elim
    ·rename_i hno
     rw [if_neg hno]
     split at h
     ·exact allP_mono (hk _) h
     ·split at h
      ·exact allP_mono (hk _) h
      ·exact h
   ·exact h.elim
  ·exact h
 ·split at h
  ·exact allP_mono (hk _) h
  ·exact h
theorem vcG_mono {g : Bool} {σ : Sig} {o : Oper} {K K' : Sig → Prop} (hk : ∀ σ, K σ → K' σ) (h : vcG P G g σ o K) : vcG P G g σ o K' := by
 unfold vcG at h ⊢
 split at h
 ·split at h
  ·refine gimp_mono (fun h => ?_) h
   split at h
   ·rename_i hno
    rw [if_pos hno]
    split at h
    ·split at h
     ·exact hk _ h
     ·exact h.elim
    ·split at h
     ·rename_i hs
      rw [if_pos hs]
      exact callK_mono (fun r hr => hk _ hr) h
     ·exact h.elim
   ·rename_i hno
    rw [if_neg hno]
    exact gcall_mono (fun r hr => hk _ hr) h
  ·exact h
 ·split at h
  ·exact h.elim
  ·rename_i hno
   rw [if_neg hno]
   split at h
   ·exact gimp_mono (hk _) h
   ·exact h
 ·split at h
  ·exact gimp_mono (hk _) h
  ·exact h
theorem vcOpT_mono {σ : Sig} {o : Oper} {K K' : Sig → Prop} (hk : ∀ σ, K σ → K' σ) (h : vcOpT P G m ops o σ K) : vcOpT P G m ops o σ K' := by
 unfold vcOpT at h ⊢
 split at h
 ·exact vcUT_mono hk h
 ·split at h
  ·rename_i g _
   cases hc : G.conc && !g with
   | true => rw [hc] at h; exact hk _ h
   | false => rw [hc] at h; exact vcG_mono hk h
  ·exact h
theorem closeAll_none {σ : Sig} {xs : List AV} (h : ¬ (xs.any AV.hasOwn) = true) : closeAll σ xs = some (σ, xs) := by unfold closeAll; rw [if_neg h]
theorem vcU_of_T {σ : Sig} {o : Oper} {K : Sig → Prop} (h : vcUT P G m σ o K) : vcU P G σ o K := by
 unfold vcUT at h
 unfold vcU
 split at h
 ·rename_i ho
  simp only [ho]
  exact h
 ·rename_i ho
  simp only [ho]
  exact h
 ·exact h.elim
 ·rename_i ho
  simp only [ho]
  split at h
  ·exact h.elim
  ·rename_i hno
   rw [closeAll_none hno]
   exact h
 ·rename_i ho
  simp only [ho]
  exact h
 ·rename_i ho
  simp only [ho]
  split at h
  ·rename_i hf
   simp only [hf]
   refine allP_mono (fun h => ?_) h
   split at h
   ·rename_i hown
    unfold vcCall
    rw [if_pos hown]
    unfold effLend at h
    split at h
    ·exact h.elim
    ·rename_i ho0
     rw [ho0]
     simp only
     split at h
     ·rename_i h1 h2
      rw [h1, h2]
      exact h
     ·rename_i hne
      split at h
      ·rename_i hl
       split
       ·rename_i h1 h2
        exact (hne _ _ _ _ _ h1 h2).elim
       ·rw [if_pos hl]
        exact h
      ·exact h.elim
   ·rename_i hno
    unfold vcCall
    rw [if_neg hno]
    split at h
    ·rename_i he
     rw [he]
     exact h
    rename_i he
    rw [he]
    unfold gcall at h
    split at h
    ·exact h.elim
    ·exact h
  ·exact h.elim
 ·rename_i ho
  simp only [ho]
  split at h
  ·rename_i ha ht
   simp only [ha, ht]
   split at h
   ·split at h
    ·exact h.elim
    ·rename_i htt _
     rw [if_pos htt]
     split at h
     ·rename_i hap
      rw [hap]
      exact h
     ·rename_i hap
      rw [hap]
      exact h
   ·exact h.elim
  ·exact h.elim
 ·rename_i n1 n2 n3 n4 n5 n6 n7
  split
  ·rename_i ho; exact (n1 _ ho).elim
  ·rename_i ho; exact (n2 _ _ ho).elim
  ·rename_i ho; exact (n3 _ _ _ ho).elim
  ·rename_i ho; exact (n4 _ _ _ ho).elim
  ·rename_i ho; exact (n5 _ _ _ ho).elim
  ·rename_i ho; exact (n6 _ _ _ ho).elim
  ·rename_i ho; exact (n7 _ _ ho).elim
  ·exact h
theorem vcGU_of_G {g : Bool} {σ : Sig} {o : Oper} {K : Sig → Prop} (h : vcG P G g σ o K) : vcGU P G g σ o K := by
 unfold vcGU
 split
 ·rename_i ho
  split
  ·rename_i hf
   split
   ·rename_i hi
    unfold vcG at h
    simp only [ho, hf, gimp_iff] at h
    obtain ⟨h1, h2⟩ := h
    unfold gcall at h2
    rw [hi] at h2
    cases g with
    | true => split at h2 <;> exact h2.elim
    | false => split at h2 <;> exact h2
   ·exact h
  ·rename_i hf
   unfold vcG at h
   simp only [ho, hf] at h
   exact h.elim
  ·exact h
 ·exact h
theorem vcOp_of_T {σ : Sig} {o : Oper} {K : Sig → Prop} (h : vcOpT P G m ops o σ K) : vcOp P G ops o σ K := by
 unfold vcOpT at h
 unfold vcOp
 cases hg : o.guard with
 | none => rw [hg] at h; exact vcU_of_T h
 | some jw =>
  rw [hg] at h
  simp only at h ⊢
  split at h
  ·rename_i g hga
   simp only [hga]
   cases hc : G.conc && !g with
   | true => rw [hc] at h; exact h
   | false => rw [hc] at h; exact vcGU_of_G h
  ·exact h.elim
end
end Go.Sx
