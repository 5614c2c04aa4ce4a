/- Regions whose operations come in any order: what only computes or reads may be taken first. -/
import Derived.Test.YtdkpceodckdcfaaGreatDoorSxK
set_option linter.unusedSimpArgs false
set_option linter.unusedVariables false
namespace Go.Sx
open Go Go.RowKit
def AV.top : AV → Option Nat
 | .np k _ | .ns k _ _ | .ap k _ _ | .ps k _ => some k
 | _ => none
section
variable {P : Program} {bl bl' : Nat → OB}
theorem Vh {sh : Option Nat} {x : AV} (h : ∀ k, x.top = some k → bl' k = bl k) : yQ bl' sh x = yQ bl sh x := by
 cases x <;> simp only [yQ] <;> rw [h _ rfl]
theorem WH {sh : Option Nat} {x : AV} (h : ∀ k, x.top = some k → bl' k = bl k) : Yb bl' sh x = Yb bl sh x := by
 cases x <;> first | rfl | (simp only [Yb]; rw [h _ rfl])
theorem uC {x : AV} (h : ∀ k, x.top = some k → bl' k = bl k) : xw bl' x = xw bl x := by
 cases x <;> simp only [xw] <;> first | rw [h _ rfl] | (split <;> first | rfl | (rename_i e; cases e) | simp_all)
theorem UE {P : Program} {bl bl' : Nat → OB} {s d : TypeId} {x : AV} (h : ∀ k, x.top = some k → bl' k = bl k) : VK P bl' s d x = VK P bl s d x := by
 have e : XF bl' 1 x = XF bl 1 x := by
  cases x <;> first | rfl | skip
  rename_i k off m
  unfold XF
  simp only [h k rfl]
 unfold VK
 rw [e]
theorem u6 {x : AV} {d : Nat} (h : ∀ k, x.top = some k → bl' k = bl k) : x.shift bl' d = x.shift bl d := by
 cases x <;> simp only [AV.shift] <;> rw [h _ rfl]
theorem w5 {t : TypeId} {x ix : AV} (h : ∀ k, x.top = some k → bl' k = bl k) : yu P bl' t x ix = yu P bl t x ix := by
 unfold yu
 split
 ·split
  ·cases x with
   | ns k off len => have e := h k rfl; cases P.info? _ <;> simp only [e]
   | ps k len => have e := h k rfl; cases P.info? _ <;> simp only [e]
   | _ => cases P.info? _ <;> rfl
  ·cases x with
   | ap k i j => have e := h k rfl; cases P.info? _ <;> cases j <;> simp only [e]
   | np k off => have e := h k rfl; cases P.info? _ <;> simp only [e]
   | _ => cases P.info? _ <;> rfl
  ·rfl
 ·rfl
theorem Ut {t : TypeId} {x : AV} {lo hi mx : Option AV} (h : ∀ k, x.top = some k → bl' k = bl k) : x9 P bl' t x lo hi mx = x9 P bl t x lo hi mx := by
 unfold x9
 rcases P.underlying t with _ | u
 ·rfl
 ·cases u with
  | string =>
   cases x with
   | str l => rcases Zp lo with _ | (_ | _) <;> rcases Zp hi with _ | (_ | _) <;> rcases Zp mx with _ | (_ | _) <;> rfl
   | _ => rfl
  | slice e =>
   cases x with
   | ns k off len =>
    have e := h k rfl
    rcases Zp lo with _ | (_ | _) <;> rcases Zp hi with _ | (_ | _) <;> rcases Zp mx with _ | (_ | _) <;> first | rfl | simp only [e]
   | xl => rcases Zp lo with _ | (_ | _) <;> rcases Zp hi with _ | (_ | _) <;> rcases Zp mx with _ | (_ | _) <;> rfl
   | _ => rfl
  | _ => rfl
theorem s6 {t : TypeId} {x : AV} (h : ∀ k, x.top = some k → bl' k = bl k) : VO P bl' t x = VO P bl t x := by
 unfold VO
 rcases P.underlying t with _ | u
 ·rfl
 ·cases x with
  | ns k off len =>
   have e := h k rfl
   cases u <;> first | rfl | simp only [e]
  | v x => cases u <;> cases x <;> rfl
  | _ => cases u <;> rfl
theorem SG {b : Builtin} {ts : List TypeId} {xs : List AV} (h : ∀ x ∈ xs, ∀ k, x.top = some k → bl' k = bl k) : tA P bl' b ts xs = tA P bl b ts xs := by
 unfold tA
 split <;> first | rfl | exact s6 (h _ (by simp))
theorem V7 {x : AV} (h : ∀ k, x.top = some k → bl' k = bl k) : XM bl' x = XM bl x := by
 unfold XM
 cases x with
 | ns k off len => simp only [h k rfl]
 | _ => rfl
theorem tG {op : BinOp} {t : TypeId} {x y : AV} (h1 : ∀ k, x.top = some k → bl' k = bl k) (h2 : ∀ k, y.top = some k → bl' k = bl k) : su P bl' op t x y = su P bl op t x y := by
 unfold su uZ
 rw [V7 h1]
 cases y with
 | np k' o' => simp only [h2 k' rfl]
 | v u =>
  cases u with
  | slice o n c => cases o <;> cases n <;> cases c <;> rfl
  | pointer p => cases p <;> rfl
  | _ => rfl
 | _ => rfl
theorem X5 {ev ev' : Operand → AV} {o : Op} (he : ∀ x ∈ o.operands, ev' x = ev x) (hb : ∀ x ∈ o.operands, ∀ k, (ev x).strip.top = some k → bl' k = bl k) :
  ZN P bl' ev' o = ZN P bl ev o := by
 have hg : ((Z7 o).flatMap fun x => (ev' x).gprop) = (Z7 o).flatMap fun x => (ev x).gprop := by
  rw [List.flatMap_def, List.flatMap_def]
  congr 1
  refine List.map_congr_left fun x hx => ?_
  rw [he x]
  cases o <;> first | exact Array.mem_toList_iff.1 hx | cases hx
 have hr : zf P bl' ev' (fun x => (ev' x).strip) o = zf P bl ev (fun x => (ev x).strip) o := by
  have hm : ∀ l : List Operand, (∀ x ∈ l, x ∈ o.operands) → l.map (fun x => (ev' x).strip) = l.map fun x => (ev x).strip := fun l hl => List.map_congr_left fun x hx => by rw [he x (hl x hx)]
  have ho : ∀ l : Option Operand, (∀ x, l = some x → x ∈ o.operands) → l.map (fun x => (ev' x).strip) = l.map fun x => (ev x).strip := fun l hl => by
   cases l with
   | none => rfl
   | some x => simp only [Option.map_some, he x (hl x rfl)]
  cases o with
  | move x => simp only [zf, he x (by simp [Op.operands])]
  | assign x => simp only [zf, he x (by simp [Op.operands])]
  | pick c a b => simp only [zf, he c (by simp [Op.operands]), he a (by simp [Op.operands]), he b (by simp [Op.operands])]
  | load t x =>
   have h := hb x (by simp [Op.operands])
   simp only [zf, he x (by simp [Op.operands]), Vh h, WH h]
  | nilCheck x =>
   have h := hb x (by simp [Op.operands])
   simp only [zf, he x (by simp [Op.operands]), uC h]
  | binOp op t x y t' =>
   have h1 := hb x (by simp [Op.operands])
   have h2 := hb y (by simp [Op.operands])
   simp only [zf, he x (by simp [Op.operands]), he y (by simp [Op.operands]), tG h1 h2]
  | build t parts =>
   have : (parts.toList.map fun p => (p.1, (ev' p.2).strip)) = parts.toList.map fun p => (p.1, (ev p.2).strip) := List.map_congr_left fun p hp => by
    rw [he p.2 (by simp only [Op.operands, List.mem_toArray, List.mem_map]; exact ⟨p, hp, rfl⟩)]
   simp only [zf, this]
  | unOp op t x => simp only [zf, he x (by simp [Op.operands])]
  | convert s d x =>
   have h := hb x (by simp [Op.operands])
   simp only [zf, he x (by simp [Op.operands]), UE h]
  | makeFunc f a b =>
   simp only [zf, hm a.toList fun x hx => by simp only [Op.operands, Array.mem_append]; exact .inl (Array.mem_toList_iff.1 hx),
    hm b.toList fun x hx => by simp only [Op.operands, Array.mem_append]; exact .inr (Array.mem_toList_iff.1 hx)]
  | slice t x a b c =>
   have h := hb x (by simp [Op.operands])
   simp only [zf, he x (by simp [Op.operands]), Ut h, ho a fun x hx => by simp [Op.operands, hx], ho b fun x hx => by simp [Op.operands, hx],
    ho c fun x hx => by simp [Op.operands, hx]]
  | fieldAddr t x f =>
   have h := hb x (by simp [Op.operands])
   simp only [zf, he x (by simp [Op.operands]), u6 h]
  | field t x f => simp only [zf, he x (by simp [Op.operands])]
  | indexAddr t x i =>
   have h := hb x (by simp [Op.operands])
   simp only [zf, he x (by simp [Op.operands]), he i (by simp [Op.operands]), w5 h]
  | index t x i => simp only [zf, he x (by simp [Op.operands]), he i (by simp [Op.operands])]
  | extract x i => simp only [zf, he x (by simp [Op.operands])]
  | call c =>
   obtain ⟨cal, args, ts⟩ := c
   cases cal with
   | builtin b =>
    have hin : ∀ x ∈ args.toList, x ∈ (Op.call ⟨.builtin b, args, ts⟩).operands := fun x hx => by simpa [Op.operands, Call.operands] using hx
    simp only [zf, hm _ hin]
    rw [SG]
    intro x hx k hk
    obtain ⟨y, hy, rfl⟩ := List.mem_map.1 hx
    exact hb y (hin y hy) k hk
   | _ => rfl
  | _ => rfl
 unfold ZN
 rw [hr, hg]
end
def Sv : Option Nat → Nat → Nat
 | none, n => n
 | some m, n => bif Nat.ble m n then m else n
theorem VJ (m n : Nat) : Sv (some m) n = if m ≤ n then m else n := by
 show (bif Nat.ble m n then m else n) = _
 by_cases h : m ≤ n
 ·rw [if_pos h, Nat.ble_eq_true_of_le h]; rfl
 ·rw [if_neg h]
  cases hb : Nat.ble m n with
  | true => exact absurd (Nat.le_of_ble_eq_true hb) h
  | false => rfl
theorem tK {m : Option Nat} {n : Nat} : Sv m n ≤ n := by
 cases m with
 | none => exact Nat.le_refl _
 | some m => rw [VJ]; split <;> omega
theorem UF {m n : Nat} : Sv (some m) n ≤ m := by rw [VJ]; split <;> omega
theorem S5 {m : Option Nat} {n n' : Nat} (h : n ≤ n') : Sv m n ≤ Sv m n' := by
 cases m with
 | none => exact h
 | some m => rw [VJ, VJ]; split <;> split <;> omega
structure Zu (m : Option Nat) (d : Option Tmp) (σ σ' : zw) : Prop where
 n : σ'.n = σ.n
 nb : σ.nb ≤ σ'.nb
 bl : ∀ k, k < Sv m σ.nb → σ'.bl k = σ.bl k
 tm : ∀ t, d ≠ some t → σ'.tm t = σ.tm t
theorem Zu.refl {m : Option Nat} (d : Option Tmp) (σ : zw) : Zu m d σ σ := ⟨rfl, Nat.le_refl _, fun _ _ => rfl, fun _ _ => rfl⟩
theorem Zu.put {m : Option Nat} {σ σ' : zw} (h : Zu m none σ σ') (d : Option Tmp) (x : AV) : Zu m d σ (σ'.put d x) := by
 cases d with
 | none => exact h
 | some d => exact ⟨h.n, h.nb, h.bl, fun t ht => (zx _ _ fun e => ht (by rw [e])).trans (h.tm t (by simp))⟩
theorem Zu.add {m : Option Nat} (σ : zw) (B : OB) : Zu m none σ (σ.add B) :=
 ⟨rfl, Nat.le_succ _, fun _ hk => zx _ _ (Nat.ne_of_lt (Nat.lt_of_lt_of_le hk tK)), fun _ _ => rfl⟩
theorem YW (σ : zw) (d : Option Tmp) (x : AV) : (σ.put d x).nb = σ.nb := by cases d <;> rfl
theorem YH (σ : zw) (d : Option Tmp) (x : AV) : (σ.put d x).bl = σ.bl := by cases d <;> rfl
theorem y7 (σ : zw) (d : Option Tmp) (x : AV) (B : OB) : (σ.put d x).add B = (σ.add B).put d x := by cases d <;> rfl
theorem put_comm {σ : zw} {d d' : Option Tmp} {x y : AV} (h : ∀ t, d = some t → d' ≠ some t) : (σ.put d x).put d' y = (σ.put d' y).put d x := by
 cases d with
 | none => rfl
 | some d => cases d' with
  | none => rfl
  | some d' =>
   simp only [zw.put, zw.mk.injEq, true_and, and_true]
   funext t
   by_cases h1 : t = d'
   ·subst h1
    rw [upd_same, zx _ _ (fun e => h d rfl (by rw [e])), upd_same]
   ·rw [zx _ _ h1]
    by_cases h2 : t = d
    ·subst h2; rw [upd_same, upd_same]
    ·rw [zx _ _ h2, zx _ _ h2, zx _ _ h1]
theorem Zu.ev {m : Option Nat} {σ σ' : zw} {d : Option Tmp} (h : Zu m d σ σ') {x : Operand} (hx : ∀ t, x = .tmp t → d ≠ some t) : σ'.ev x = σ.ev x := by
 cases x with
 | tmp t => simp only [zw.ev, h.n, h.tm t (hx t rfl)]
 | _ => rfl
theorem SR {σ : zw} {d : Option Tmp} {v : AV} {x : Operand} (hx : ∀ t, x = .tmp t → d ≠ some t) : (σ.put d v).ev x = σ.ev x := ((Zu.refl (m := none) none σ).put d v).ev hx
def Xr : Option Nat → AV → Bool
 | some m, .ns k _ _ => Nat.ble m k
 | _, _ => false
def Yn (P : Program) (G : Cx) (σ : zw) (o : Oper) (f : FuncId) (xs : List AV) (k : zw → Prop) : Prop :=
 match G.own f with
 | some _ => zb o
 | none =>
  match SI σ.bl xs, G.fre f (xs.map (lend σ.bl)) with
  | true, some (ps, te, sz, len, els) => Zl (ps ++ [.p (∀ i j, i < len → j < sz → (els i j).scalar = true)]) (k ((σ.add (.arr te sz len els)).put o.dst (.ns σ.nb 0 len)))
  | _, _ =>
   match xn P G f (xs.map (lend σ.bl)) o.type with
   | true => y4 P G none f (xs.map (lend σ.bl)) o.type fun r => k (σ.put o.dst r)
   | false => zb o
def wo (P : Program) (G : Cx) (m : Option Nat) (σ : zw) (o : Oper) (k : zw → Prop) : Prop :=
 match o.op with
 | .alloc elem =>
  match yF P σ elem with
  | some (σ', r) => k (σ'.put o.dst r)
  | none => zb o
 | .box t x =>
  match xR σ t (σ.sv x) with
  | some (σ', r) => Zl (σ.ev x).gprop (k (σ'.put o.dst r))
  | none => zb o
 | .store _ _ _ => zb o
 | .buildSlice t len parts =>
  if ((parts.toList.map fun p => σ.sv p.2).any AV.hasOwn || wz (parts.toList.map (·.2))) = true then zb o
  else
   match zG P σ t len (parts.toList.map (·.1)) (parts.toList.map fun p => σ.sv p.2) with
   | some (σ', r) => Zl (za σ (parts.toList.map (·.2))) (k (σ'.put o.dst r))
   | none => zb o
 | .makeSlice t l c =>
  match ZS P σ t (σ.sv l) (σ.sv c) with
  | some (ps, σ', r) => Zl ((σ.ev l).gprop ++ (σ.ev c).gprop ++ ps) (k (σ'.put o.dst r))
  | none => zb o
 | .call { callee := .value f, args, .. } =>
  match σ.sv f with
  | .fn (.func fid) nf first nc cap =>
   Zl ((σ.ev f).gprop ++ za σ args.toList) <|
    if (ZM nf first (args.toList.map σ.sv) nc cap).any AV.hasOwn then Yn P G σ o fid (ZM nf first (args.toList.map σ.sv) nc cap) k
    else
     match yR G σ fid (ZM nf first (args.toList.map σ.sv) nc cap) with
     | some (ps, σ', r) => Zl ps (k (σ'.put o.dst r))
     | none => xY P G none fid (ZM nf first (args.toList.map σ.sv) nc cap) o.type fun r => k (σ.put o.dst r)
  | _ => zb o
 | .call { callee := .builtin .append, args, argTypes } =>
  match args.toList, argTypes.toList with
  | [s, x], [t, t'] =>
   if t = t' then
    if ((σ.sv s).hasOwn && !Xr m (σ.sv s)) = true then zb o
    else
     match ZJ P σ t (σ.sv s) (σ.sv x) with
     | some (ps, σ', r) => Zl ((σ.ev s).gprop ++ (σ.ev x).gprop ++ ps) (k (σ'.put o.dst r))
     | none =>
      match ZC P σ t (σ.sv s) (σ.sv x) with
      | some (ps, σ', r) => Zl ((σ.ev s).gprop ++ (σ.ev x).gprop ++ ps) (k (σ'.put o.dst r))
      | none => zb o
   else zb o
  | _, _ => zb o
 | op =>
  match ZN P σ.bl σ.ev op with
  | some (ps, r) => Zl ps (k (σ.put o.dst r))
  | none => zb o
def YN (P : Program) (G : Cx) (m : Option Nat) (ops : List Oper) (o : Oper) (σ : zw) (k : zw → Prop) : Prop :=
 match o.guard with
 | none => wo P G m σ o k
 | some (j, want) =>
  match Zg ops σ j want with
  | some g =>
   match G.conc && !g with
   | true => k (σ.put o.dst (.gd false (wO P o.type)))
   | false => V6 P G g σ o k
  | none => zb o
end Go.Sx

namespace Go.Sx
open Go Go.RowKit
section
variable {P : Program} {G : Cx} {m : Option Nat} {ops : List Oper}
theorem vj {σ σ' : zw} {e : TypeId} {r : AV} (h : yF P σ e = some (σ', r)) : Zu m none σ σ' ∧ ∀ (d : Option Tmp) (x : AV), yF P (σ.put d x) e = some (σ'.put d x, r) := by
 unfold yF at h ⊢
 repeat' split at h
 all_goals first | cases h | skip
 ·rename_i hc
  refine ⟨Zu.add _ _, fun d x => ?_⟩
  simp only [y7, YW, if_pos hc]
 ·rename_i hn hc
  refine ⟨Zu.add _ _, fun d x => ?_⟩
  simp only [y7, YW, if_neg hn, if_pos hc]
 ·rename_i hc
  refine ⟨Zu.add _ _, fun d x => ?_⟩
  simp only [y7, YW, if_pos hc]
theorem uB {σ σ' : zw} {t : TypeId} {v r : AV} (h : xR σ t v = some (σ', r)) : Zu m none σ σ' ∧ ∀ (d : Option Tmp) (x : AV), xR (σ.put d x) t v = some (σ'.put d x, r) := by
 unfold xR at h ⊢
 split at h
 ·rename_i n cs hc
  cases h
  exact ⟨Zu.add _ _, fun d x => by simp only [YH, YW, y7, hc]⟩
 ·cases h
theorem vi {σ σ' : zw} {t : TypeId} {n : Nat} {idx : List Nat} {xs : List AV} {r : AV} (h : zG P σ t n idx xs = some (σ', r)) :
  Zu m none σ σ' ∧ ∀ (d : Option Tmp) (x : AV), zG P (σ.put d x) t n idx xs = some (σ'.put d x, r) := by
 obtain ⟨rfl, h2⟩ := Z3 h
 exact ⟨Zu.refl _ _, fun d x => h2 _⟩
theorem uY {σ σ' : zw} {t : TypeId} {l c r : AV} {ps : List zS} (h : ZS P σ t l c = some (ps, σ', r)) :
  Zu m none σ σ' ∧ ∀ (d : Option Tmp) (x : AV), ZS P (σ.put d x) t l c = some (ps, σ'.put d x, r) := by
 unfold ZS at h ⊢
 repeat' split at h
 all_goals first | cases h | skip
 rename_i hc
 refine ⟨Zu.add _ _, fun d x => ?_⟩
 simp only [y7, YW, if_pos hc]
theorem uf {G : Cx} {σ σ' : zw} {f : FuncId} {xs : List AV} {r : AV} {ps : List zS} (h : yR G σ f xs = some (ps, σ', r)) :
  Zu m none σ σ' ∧ ∀ d x, yR G (σ.put d x) f xs = some (ps, σ'.put d x, r) := by
 unfold yR at h ⊢
 split at h
 ·rename_i hf
  cases h
  exact ⟨Zu.add _ _, fun d x => by simp only [y7, YW]⟩
 ·cases h
theorem Up {G : Cx} {σ : zw} {d : Option Tmp} {x : AV} {f : FuncId} {xs : List AV} (h : yR G (σ.put d x) f xs = none) : yR G σ f xs = none := by
 unfold yR at h ⊢
 split at h
 ·cases h
 ·rfl
theorem uw {m : Option Nat} {x : AV} (h : ¬ ((x.hasOwn && !Xr m x) = true)) : x.hasOwn = false ∨ Xr m x = true := by
 cases h1 : x.hasOwn with
 | false => exact .inl rfl
 | true =>
  cases h2 : Xr m x with
  | true => exact .inr rfl
  | false => rw [h1, h2] at h; exact (h rfl).elim
theorem xI {σ σ' : zw} {t : TypeId} {s v r : AV} {ps : List zS} (hs : s.hasOwn = false ∨ Xr m s = true) (h : ZJ P σ t s v = some (ps, σ', r)) :
  Zu m none σ σ' ∧ ∀ (d : Option Tmp) (x : AV), ZJ P (σ.put d x) t s v = some (ps, σ'.put d x, r) := by
 unfold ZJ at h ⊢
 repeat' split at h
 all_goals first | cases h | skip
 ·refine ⟨Zu.add _ _, fun d x => ?_⟩
  simp only [y7, YW, YH]
  simp_all
 ·refine ⟨⟨rfl, Nat.le_refl _, fun k' _ => rfl, fun _ _ => rfl⟩, fun d x => ?_⟩
  simp only [YH]
  simp_all
 ·refine ⟨Zu.add _ _, fun d x => ?_⟩
  simp only [y7, YW, YH]
  simp_all
 ·rename_i k n _ _ _ _ _ _ hcc
  have hm : ∀ k', k' < Sv m σ.nb → k' ≠ k := by
   rcases hs with hs | hs
   ·cases hs
   ·cases m with
    | none => cases hs
    | some m' =>
     have h1 : m' ≤ k := Nat.le_of_ble_eq_true hs
     intro k' hk'
     have := UF (m := m') (n := σ.nb)
     omega
  refine ⟨⟨rfl, Nat.le_succ _, fun k' hk' => ?_, fun _ _ => rfl⟩, fun d x => ?_⟩
  ·show upd (upd σ.bl k .dead) σ.nb _ k' = _
   rw [zx _ _ (Nat.ne_of_lt (Nat.lt_of_lt_of_le hk' tK)), zx _ _ (hm k' hk')]
  ·simp only [YW, YH]
   cases d <;> simp_all [zw.put]
theorem Sg {k n l nb k' : Nat} (hs : (AV.ns k n l).hasOwn = false ∨ Xr m (.ns k n l) = true) (hk' : k' < Sv m nb) : k' ≠ k := by
 rcases hs with hs | hs
 ·cases hs
 ·cases m with
  | none => cases hs
  | some m' =>
   have h1 : m' ≤ k := Nat.le_of_ble_eq_true hs
   have := UF (m := m') (n := nb)
   omega
theorem w7 {σ σ' : zw} {t : TypeId} {s v r : AV} {ps : List zS} (hs : s.hasOwn = false ∨ Xr m s = true) (h : ZC P σ t s v = some (ps, σ', r)) :
  Zu m none σ σ' ∧ ∀ (d : Option Tmp) (x : AV), ZC P (σ.put d x) t s v = some (ps, σ'.put d x, r) := by
 unfold ZC at h ⊢
 repeat' split at h
 all_goals first | cases h | skip
 all_goals
  refine ⟨⟨rfl, Nat.le_succ _, fun k' hk' => ?_, fun _ _ => rfl⟩, fun d x => ?_⟩
  ·show upd (upd σ.bl _ .dead) σ.nb _ k' = _
   rw [zx _ _ (Nat.ne_of_lt (Nat.lt_of_lt_of_le hk' tK)), zx _ _ (Sg hs hk')]
  ·simp only [YW, YH]
   cases d <;> simp_all [zw.put] <;> (rename_i hh; obtain ⟨_, _, h1, _, _, _, h2⟩ := hh; omega)
def old (σ : zw) : Option Tmp → AV
 | some t => σ.tm t
 | none => .junk
theorem Tq (σ : zw) (d : Option Tmp) (x : AV) : (σ.put d x).put d (old σ d) = σ := by
 cases d with
 | none => rfl
 | some d =>
  obtain ⟨n, tm, nb, bl⟩ := σ
  simp only [zw.put, old, zw.mk.injEq, true_and, and_true]
  funext t
  by_cases h : t = d
  ·subst h; rw [upd_same]
  ·rw [zx _ _ h, zx _ _ h]
theorem TU {σ σ1 : zw} {d : Option Tmp} {x : AV} (h : Zu m none (σ.put d x) σ1) : (σ1.put d (old σ d)).put d x = σ1 := by
 cases d with
 | none => rfl
 | some d =>
  have h1 := h.tm d (by simp)
  obtain ⟨n, tm, nb, bl⟩ := σ1
  simp only [zw.put, upd_same] at h1
  simp only [zw.put, old, zw.mk.injEq, true_and, and_true]
  funext t
  by_cases e : t = d
  ·subst e; rw [upd_same, h1]
  ·rw [zx _ _ e, zx _ _ e]
theorem rP {f : zw → Option (zw × AV)} (hf : ∀ σ σ' r, f σ = some (σ', r) → Zu m none σ σ' ∧ ∀ d x, f (σ.put d x) = some (σ'.put d x, r)) {σ σ1 : zw} {d : Option Tmp} {x r : AV}
  (h : f (σ.put d x) = some (σ1, r)) : ∃ σ', f σ = some (σ', r) ∧ Zu m none σ σ' ∧ σ1 = σ'.put d x := by
 obtain ⟨h1, h2⟩ := hf _ _ _ h
 have h3 := h2 d (old σ d)
 rw [Tq] at h3
 exact ⟨_, h3, (hf _ _ _ h3).1, (TU h1).symm⟩
theorem Tg {f : zw → Option (List zS × zw × AV)} (hf : ∀ σ ps σ' r, f σ = some (ps, σ', r) → Zu m none σ σ' ∧ ∀ d x, f (σ.put d x) = some (ps, σ'.put d x, r)) {σ σ1 : zw} {d : Option Tmp} {x r : AV} {ps : List zS}
  (h : f (σ.put d x) = some (ps, σ1, r)) : ∃ σ', f σ = some (ps, σ', r) ∧ Zu m none σ σ' ∧ σ1 = σ'.put d x := by
 obtain ⟨h1, h2⟩ := hf _ _ _ _ h
 have h3 := h2 d (old σ d)
 rw [Tq] at h3
 exact ⟨_, h3, (hf _ _ _ _ h3).1, (TU h1).symm⟩
theorem zB {σ σ' : zw} {d d' : Option Tmp} {x y : AV} {K : zw → Prop} (h : Zu m none σ σ') (hd : ∀ t, d = some t → d' ≠ some t) (hK : K ((σ'.put d x).put d' y)) :
  Zu m d' σ (σ'.put d' y) ∧ K ((σ'.put d' y).put d x) := ⟨h.put d' y, by rw [put_comm hd] at hK; exact hK⟩
theorem sQ {σ : zw} {d : Option Tmp} {x : AV} {j : Nat} {want : Bool} (h : ∀ t, d = some t → (ops[j]?).bind (·.dst) ≠ some t) : Zg ops (σ.put d x) j want = Zg ops σ j want := by
 unfold Zg
 cases ho : ops[j]? with
 | none => rfl
 | some o =>
  simp only
  cases hd : o.dst with
  | none => rfl
  | some t =>
   simp only
   cases d with
   | none => rfl
   | some d =>
    have hne : t ≠ d := fun e => h d rfl (by rw [ho, Option.bind_some, hd, e])
    simp only [zw.put, zx _ _ hne]
theorem wK {ex : TypeId → (AV → Prop) → Prop} (hex : ∀ t k k', (∀ r, k r → k' r) → ex t k → ex t k') : ∀ (ts : List TypeId) (k k' : List AV → Prop), (∀ r, k r → k' r) → xi ex ts k → xi ex ts k'
 | [], _, _, h, hk => h _ hk
 | _ :: ts, _, _, h, hk => hex _ _ _ (fun _ hv => wK hex ts _ _ (fun _ hr => h _ hr) hv) hk
theorem VU : ∀ (n : Nat) (t : TypeId) (k k' : AV → Prop), (∀ r, k r → k' r) → w6 P n t k → w6 P n t k'
 | 0, _, _, _, h, ⟨r, hr⟩ => ⟨r, h _ hr⟩
 | n + 1, t, k, k', h, hk => by
  unfold w6 at hk ⊢
  split at hk
  ·obtain ⟨x, hx⟩ := hk; exact ⟨x, h _ hx⟩
  ·obtain ⟨x, hx⟩ := hk; exact ⟨x, h _ hx⟩
  ·obtain ⟨x, hx⟩ := hk; exact ⟨x, h _ hx⟩
  ·obtain ⟨f, sz, len, els, hx⟩ := hk; exact ⟨f, sz, len, els, h _ hx⟩
  ·exact wK (VU n) _ _ _ (fun r hr => h _ hr) hk
  ·obtain ⟨r, hr⟩ := hk; exact ⟨r, h _ hr⟩
theorem zq {ps : List zS} {k k' : Prop} (h : k → k') (hp : Zl ps k) : Zl ps k' := by
 rw [zk] at hp ⊢
 exact ⟨hp.1, h hp.2⟩
theorem yK {g : Bool} {ps : List zS} {k k' : Prop} (h : k → k') (hp : Uf g ps k) : Uf g ps k' := by
 rw [Zr] at hp ⊢
 exact ⟨hp.1, h hp.2⟩
theorem WQ {o : Oper} {d : Option Tmp} (h : ∀ t, d = some t → t ∉ o.looksAt ops.toArray) : ∀ x ∈ o.op.operands, ∀ t, x = .tmp t → d ≠ some t := fun x hx t hxt hd =>
 h t hd (List.mem_append_left _ (List.mem_filterMap.2 ⟨x, Array.mem_toList_iff.2 hx, by rw [hxt]⟩))
theorem wH {o : Oper} {d : Option Tmp} {j : Nat} {want : Bool} (h : ∀ t, d = some t → t ∉ o.looksAt ops.toArray) (hg : o.guard = some (j, want)) :
  ∀ t, d = some t → (ops[j]?).bind (·.dst) ≠ some t := fun t hd he =>
 h t hd (List.mem_append_right _ (by rw [hg]; simp only [List.getElem?_toArray]; rw [he]; simp))
theorem Wd {g : Option Bool} {ps : List zS} {k k' : Prop} (h : k → k') (hp : rz g ps k) : rz g ps k' := by
 cases g with
 | none => exact zq h hp
 | some g => exact yK h hp
theorem Zd {P : Program} {G : Cx} {g : Option Bool} {f : FuncId} {xs : List AV} {t : TypeId} {K K' : AV → Prop} (h : ∀ r, K r → K' r) (hk : y4 P G g f xs t K) : y4 P G g f xs t K' := by
 unfold y4 at hk ⊢
 split at hk
 ·exact Wd (h _) hk
 ·exact VU 3 _ _ _ (fun r hr => ⟨hr.1, h r hr.2⟩) hk
theorem Y7 {P : Program} {G : Cx} {g : Option Bool} {f : FuncId} {xs : List AV} {t : TypeId} {K K' : AV → Prop} (h : ∀ r, K r → K' r) (hk : xY P G g f xs t K) : xY P G g f xs t K' := by
 unfold xY at hk ⊢
 split at hk
 ·split at hk
  ·exact h _ hk
  ·exact hk.elim
 ·exact Zd h hk
theorem Z5 {σ σ' : zw} {l : List Operand} (h : ∀ x ∈ l, σ'.ev x = σ.ev x) : za σ' l = za σ l := by
 unfold za
 rw [List.flatMap_def, List.flatMap_def]
 congr 1
 exact List.map_congr_left fun x hx => by rw [h x hx]
theorem Za {σ σ' : zw} {x : Operand} (h : σ'.ev x = σ.ev x) : σ'.sv x = σ.sv x := by unfold zw.sv; rw [h]
theorem uD {σ : zw} {o : Oper} {d : Option Tmp} {x : AV} {f : FuncId} {xs : List AV} {K : zw → Prop} (h2 : ∀ t, d = some t → o.dst ≠ some t) (h : Yn P G (σ.put d x) o f xs K) :
  Yn P G σ o f xs fun σ' => Zu m o.dst σ σ' ∧ K (σ'.put d x) := by
 unfold Yn at h ⊢
 simp only [YH, YW, y7] at h
 split at h
 ·exact h.elim
 ·split at h
  ·refine zq (fun h => ?_) h
   refine ⟨(Zu.add σ _).put _ _, ?_⟩
   rw [put_comm h2] at h
   exact h
  ·split at h
   ·rename_i hl
    refine Zd (fun r hk => ?_) h
    exact zB (Zu.refl none σ) h2 hk
   ·exact h.elim
theorem uL {σ : zw} {o : Oper} {f : FuncId} {xs : List AV} {K K' : zw → Prop} (hk : ∀ σ, K σ → K' σ) (h : Yn P G σ o f xs K) : Yn P G σ o f xs K' := by
 unfold Yn at h ⊢
 split at h
 ·exact h.elim
 ·split at h
  ·exact zq (hk _) h
  ·split at h
   ·exact Zd (fun r h => hk _ h) h
   ·exact h.elim
theorem rL {σ : zw} {o : Oper} {d : Option Tmp} {x : AV} {K : zw → Prop} (h1 : ∀ x ∈ o.op.operands, ∀ t, x = .tmp t → d ≠ some t) (h2 : ∀ t, d = some t → o.dst ≠ some t)
  (h : wo P G m (σ.put d x) o K) : wo P G m σ o fun σ' => Zu m o.dst σ σ' ∧ K (σ'.put d x) := by
 have hev : ∀ y ∈ o.op.operands, (σ.put d x).ev y = σ.ev y := fun y hy => SR (h1 y hy)
 have hsv : ∀ y ∈ o.op.operands, (σ.put d x).sv y = σ.sv y := fun y hy => Za (hev y hy)
 have gr : ∀ r, K ((σ.put d x).put o.dst r) → Zu m o.dst σ (σ.put o.dst r) ∧ K ((σ.put o.dst r).put d x) := fun r hk => zB (Zu.refl none σ) h2 hk
 unfold wo at h ⊢
 split at h
 ·rename_i e ho
  simp only
  split at h
  ·rename_i σ1 r he
   obtain ⟨σ', g1, g2, rfl⟩ := rP (f := fun σ => yF P σ e) (fun _ _ _ h => vj h) he
   simp only [g1]
   exact zB g2 h2 h
  ·exact h.elim
 ·rename_i t y ho
  have e1 := hev y (by rw [ho]; simp [Op.operands])
  have e2 := hsv y (by rw [ho]; simp [Op.operands])
  simp only [e1, e2] at h
  simp only
  split at h
  ·rename_i σ1 r he
   obtain ⟨σ', g1, g2, rfl⟩ := rP (f := fun s => xR s t (σ.sv y)) (fun _ _ _ h => uB h) he
   simp only [g1]
   exact zq (zB g2 h2) h
  ·exact h.elim
 ·exact h.elim
 ·rename_i t n parts ho
  have hin : ∀ p ∈ parts.toList, p.2 ∈ o.op.operands := fun p hp => by rw [ho]; simp only [Op.operands, List.mem_toArray, List.mem_map]; exact ⟨p, hp, rfl⟩
  have e1 : (parts.toList.map fun p => (σ.put d x).sv p.2) = parts.toList.map fun p => σ.sv p.2 := List.map_congr_left fun p hp => hsv _ (hin p hp)
  have e2 : za (σ.put d x) (parts.toList.map (·.2)) = za σ (parts.toList.map (·.2)) := Z5 fun y hy => by
   obtain ⟨p, hp, rfl⟩ := List.mem_map.1 hy
   exact hev _ (hin p hp)
  simp only [e1, e2] at h
  simp only
  split at h
  ·exact h.elim
  ·rename_i hno
   rw [if_neg hno]
   split at h
   ·rename_i σ1 r he
    obtain ⟨σ', g1, g2, rfl⟩ := rP (f := fun s => zG P s t n (parts.toList.map fun p : Nat × Operand => p.1) (parts.toList.map fun p : Nat × Operand => σ.sv p.2)) (fun _ _ _ h => vi h) he
    simp only [g1]
    exact zq (zB g2 h2) h
   ·exact h.elim
 ·rename_i t l c ho
  have e1 := hev l (by rw [ho]; simp [Op.operands])
  have e2 := hev c (by rw [ho]; simp [Op.operands])
  simp only [e1, e2, Za e1, Za e2] at h
  simp only
  split at h
  ·rename_i ps σ1 r he
   obtain ⟨σ', g1, g2, rfl⟩ := Tg (f := fun s => ZS P s t (σ.sv l) (σ.sv c)) (fun _ _ _ _ h => uY h) he
   simp only [g1]
   exact zq (zB g2 h2) h
  ·exact h.elim
 ·rename_i f args ts ho
  have e1 := hev f (by rw [ho]; simp [Op.operands, Call.operands])
  have hin : ∀ y ∈ args.toList, y ∈ o.op.operands := fun y hy => by rw [ho]; simp only [Op.operands, Call.operands, Array.mem_append]; exact .inr (Array.mem_toList_iff.1 hy)
  have e2 : args.toList.map (σ.put d x).sv = args.toList.map σ.sv := List.map_congr_left fun y hy => hsv _ (hin y hy)
  have e3 : za (σ.put d x) args.toList = za σ args.toList := Z5 fun y hy => hev _ (hin y hy)
  simp only [e1, e2, e3, Za e1] at h
  simp only
  split at h
  ·refine zq (fun h => ?_) h
   split at h
   ·rename_i hown
    rw [if_pos hown]
    exact uD h2 h
   ·rename_i hno
    rw [if_neg hno]
    split at h
    ·rename_i ps σ1 r he
     obtain ⟨σ', g1, g2, rfl⟩ := Tg (f := fun u => yR G u _ _) (fun _ _ _ _ h => uf h) he
     simp only [g1]
     exact zq (zB g2 h2) h
    ·rename_i he
     rw [Up he]
     exact Y7 gr h
  ·exact h.elim
 ·rename_i args ts ho
  have hin : ∀ y ∈ args.toList, y ∈ o.op.operands := fun y hy => by rw [ho]; simp only [Op.operands, Call.operands, Array.mem_append]; exact .inr (Array.mem_toList_iff.1 hy)
  simp only
  split at h
  ·rename_i s y t t' ha ht
   have e1 := hev s (hin s (by rw [ha]; simp))
   have e2 := hev y (hin y (by rw [ha]; simp))
   simp only [e1, e2, Za e1, Za e2] at h
   split at h
   ·rename_i htt
    rw [if_pos htt]
    split at h
    ·exact h.elim
    ·rename_i hno
     rw [if_neg hno]
     split at h
     ·rename_i ps σ1 r he
      obtain ⟨σ', g1, g2, rfl⟩ := Tg (f := fun u => ZJ P u t (σ.sv s) (σ.sv y)) (fun _ _ _ _ h => xI (uw hno) h) he
      simp only [g1]
      exact zq (zB g2 h2) h
     ·rename_i he0
      have e0 : ZJ P σ t (σ.sv s) (σ.sv y) = none := by
       cases h0 : ZJ P σ t (σ.sv s) (σ.sv y) with
       | none => rfl
       | some q =>
        obtain ⟨ps, σ1, r⟩ := q
        rw [(xI (uw hno) h0).2 d x] at he0
        cases he0
      rw [e0]
      split at h
      ·rename_i ps σ1 r he
       obtain ⟨σ', g1, g2, rfl⟩ := Tg (f := fun u => ZC P u t (σ.sv s) (σ.sv y)) (fun _ _ _ _ h => w7 (uw hno) h) he
       simp only [g1]
       exact zq (zB g2 h2) h
      ·exact h.elim
   ·exact h.elim
  ·exact h.elim
 ·have e : ZN P (σ.put d x).bl (σ.put d x).ev o.op = ZN P σ.bl σ.ev o.op := X5 hev fun _ _ _ _ => by rw [YH]
  rw [e] at h
  split at h
  ·rename_i ps r he
   exact zq (gr r) h
  ·exact h.elim
theorem RA {g : Bool} {σ : zw} {o : Oper} {d : Option Tmp} {x : AV} {K : zw → Prop} (h1 : ∀ x ∈ o.op.operands, ∀ t, x = .tmp t → d ≠ some t) (h2 : ∀ t, d = some t → o.dst ≠ some t)
  (h : V6 P G g (σ.put d x) o K) : V6 P G g σ o fun σ' => Zu m o.dst σ σ' ∧ K (σ'.put d x) := by
 have hev : ∀ y ∈ o.op.operands, (σ.put d x).ev y = σ.ev y := fun y hy => SR (h1 y hy)
 have hsv : ∀ y ∈ o.op.operands, (σ.put d x).sv y = σ.sv y := fun y hy => Za (hev y hy)
 have gr : ∀ r, K ((σ.put d x).put o.dst r) → Zu m o.dst σ (σ.put o.dst r) ∧ K ((σ.put o.dst r).put d x) := fun r hk => zB (Zu.refl none σ) h2 hk
 unfold V6 at h ⊢
 split at h
 ·rename_i f args ts ho
  have e1 := hev f (by rw [ho]; simp [Op.operands, Call.operands])
  have hin : ∀ y ∈ args.toList, y ∈ o.op.operands := fun y hy => by rw [ho]; simp only [Op.operands, Call.operands, Array.mem_append]; exact .inr (Array.mem_toList_iff.1 hy)
  have e2 : args.toList.map (σ.put d x).sv = args.toList.map σ.sv := List.map_congr_left fun y hy => hsv _ (hin y hy)
  have e3 : za (σ.put d x) args.toList = za σ args.toList := Z5 fun y hy => hev _ (hin y hy)
  simp only [e1, e2, e3, Za e1, YH] at h
  simp only
  split at h
  ·refine yK (fun h => ?_) h
   split at h
   ·rename_i hno
    rw [if_pos hno]
    split at h
    ·split at h
     ·exact gr _ h
     ·exact h.elim
    ·split at h
     ·rename_i hs
      rw [if_pos hs]
      exact Zd (fun r hr => gr _ hr) h
     ·exact h.elim
   ·rename_i hno
    rw [if_neg hno]
    exact Y7 (fun r hr => gr _ hr) h
  ·exact h.elim
 ·rename_i tb lb parts ho
  have hin : ∀ p ∈ parts.toList, p.2 ∈ o.op.operands := fun p hp => by rw [ho]; simp only [Op.operands, List.mem_toArray, List.mem_map]; exact ⟨p, hp, rfl⟩
  have e1 : (parts.toList.map fun p => (σ.put d x).sv p.2) = parts.toList.map fun p => σ.sv p.2 := List.map_congr_left fun p hp => hsv _ (hin p hp)
  have e2 : za (σ.put d x) (parts.toList.map (·.2)) = za σ (parts.toList.map (·.2)) := Z5 fun y hy => by
   obtain ⟨p, hp, rfl⟩ := List.mem_map.1 hy
   exact hev _ (hin p hp)
  rw [e1, e2] at h
  split at h
  ·exact h.elim
  ·rename_i hno
   rw [if_neg hno]
   split at h
   ·rename_i σ1 r he
    rw [(Z3 he).2 σ]
    exact yK (gr _) h
   ·exact h.elim
 ·have e : ZN P (σ.put d x).bl (σ.put d x).ev o.op = ZN P σ.bl σ.ev o.op := X5 hev fun _ _ _ _ => by rw [YH]
  rw [e] at h
  split at h
  ·exact yK (gr _) h
  ·exact h.elim
theorem TB {σ : zw} {o : Oper} {d : Option Tmp} {x : AV} {K : zw → Prop} (h1 : ∀ t, d = some t → t ∉ o.looksAt ops.toArray) (h2 : ∀ t, d = some t → o.dst ≠ some t)
  (h : YN P G m ops o (σ.put d x) K) : YN P G m ops o σ fun σ' => Zu m o.dst σ σ' ∧ K (σ'.put d x) := by
 unfold YN at h ⊢
 split at h
 ·exact rL (WQ h1) h2 h
 ·rename_i j want hg
  rw [sQ (wH h1 hg)] at h
  split at h
  ·rename_i g _
   cases hc : G.conc && !g with
   | true =>
    rw [hc] at h
    exact zB (Zu.refl none σ) h2 h
   | false =>
    rw [hc] at h
    exact RA (WQ h1) h2 h
  ·exact h.elim
theorem T3 {σ : zw} {o : Oper} {K K' : zw → Prop} (hk : ∀ σ, K σ → K' σ) (h : wo P G m σ o K) : wo P G m σ o K' := by
 unfold wo at h ⊢
 split at h
 ·split at h
  ·exact hk _ h
  ·exact h
 ·split at h
  ·exact zq (hk _) h
  ·exact h
 ·exact h
 ·split at h
  ·exact h.elim
  ·rename_i hno
   rw [if_neg hno]
   split at h
   ·exact zq (hk _) h
   ·exact h
 ·split at h
  ·exact zq (hk _) h
  ·exact h
 ·split at h
  ·refine zq (fun h => ?_) h
   split at h
   ·rename_i hown
    rw [if_pos hown]
    exact uL hk h
   ·rename_i hno
    rw [if_neg hno]
    split at h
    ·exact zq (hk _) h
    ·exact Y7 (fun r hr => hk _ hr) h
  ·exact h
 ·split at h
  ·split at h
   ·rename_i htt
    rw [if_pos htt]
    split at h
    ·exact h.elim
    ·rename_i hno
     rw [if_neg hno]
     split at h
     ·exact zq (hk _) h
     ·split at h
      ·exact zq (hk _) h
      ·exact h
   ·exact h.elim
  ·exact h
 ·split at h
  ·exact zq (hk _) h
  ·exact h
theorem Xa {g : Bool} {σ : zw} {o : Oper} {K K' : zw → Prop} (hk : ∀ σ, K σ → K' σ) (h : V6 P G g σ o K) : V6 P G g σ o K' := by
 unfold V6 at h ⊢
 split at h
 ·split at h
  ·refine yK (fun h => ?_) h
   split at h
   ·rename_i hno
    rw [if_pos hno]
    split at h
    ·split at h
     ·exact hk _ h
     ·exact h.elim
    ·split at h
     ·rename_i hs
      rw [if_pos hs]
      exact Zd (fun r hr => hk _ hr) h
     ·exact h.elim
   ·rename_i hno
    rw [if_neg hno]
    exact Y7 (fun r hr => hk _ hr) h
  ·exact h
 ·split at h
  ·exact h.elim
  ·rename_i hno
   rw [if_neg hno]
   split at h
   ·exact yK (hk _) h
   ·exact h
 ·split at h
  ·exact yK (hk _) h
  ·exact h
theorem Xp {σ : zw} {o : Oper} {K K' : zw → Prop} (hk : ∀ σ, K σ → K' σ) (h : YN P G m ops o σ K) : YN P G m ops o σ K' := by
 unfold YN at h ⊢
 split at h
 ·exact T3 hk h
 ·split at h
  ·rename_i g _
   cases hc : G.conc && !g with
   | true => rw [hc] at h; exact hk _ h
   | false => rw [hc] at h; exact Xa hk h
  ·exact h
theorem vg {σ : zw} {xs : List AV} (h : ¬ (xs.any AV.hasOwn) = true) : yq σ xs = some (σ, xs) := by unfold yq; rw [if_neg h]
theorem rB {σ : zw} {o : Oper} {K : zw → Prop} (h : wo P G m σ o K) : qb P G σ o K := by
 unfold wo at h
 unfold qb
 split at h
 ·rename_i ho
  simp only [ho]
  exact h
 ·rename_i ho
  simp only [ho]
  exact h
 ·exact h.elim
 ·rename_i ho
  simp only [ho]
  split at h
  ·exact h.elim
  ·rename_i hno
   rw [V0 hno, vg fun h => hno (by rw [h]; rfl)]
   exact h
 ·rename_i ho
  simp only [ho]
  exact h
 ·rename_i ho
  simp only [ho]
  split at h
  ·rename_i hf
   simp only [hf]
   refine zq (fun h => ?_) h
   split at h
   ·rename_i hown
    unfold xF
    rw [if_pos hown]
    unfold Yn at h
    split at h
    ·exact h.elim
    ·rename_i ho0
     rw [ho0]
     simp only
     split at h
     ·rename_i h1 h2
      rw [h1, h2]
      exact h
     ·rename_i hne
      split at h
      ·rename_i hl
       split
       ·rename_i h1 h2
        exact (hne _ _ _ _ _ h1 h2).elim
       ·rw [if_pos hl]
        exact h
      ·exact h.elim
   ·rename_i hno
    unfold xF
    rw [if_neg hno]
    split at h
    ·rename_i he
     rw [he]
     exact h
    rename_i he
    rw [he]
    unfold xY at h
    split at h
    ·exact h.elim
    ·exact h
  ·exact h.elim
 ·rename_i ho
  simp only [ho]
  split at h
  ·rename_i ha ht
   simp only [ha, ht]
   split at h
   ·split at h
    ·exact h.elim
    ·rename_i htt _
     rw [if_pos htt]
     split at h
     ·rename_i hap
      rw [hap]
      exact h
     ·rename_i hap
      rw [hap]
      exact h
   ·exact h.elim
  ·exact h.elim
 ·rename_i n1 n2 n3 n4 n5 n6 n7
  split
  ·rename_i ho; exact (n1 _ ho).elim
  ·rename_i ho; exact (n2 _ _ ho).elim
  ·rename_i ho; exact (n3 _ _ _ ho).elim
  ·rename_i ho; exact (n4 _ _ _ ho).elim
  ·rename_i ho; exact (n5 _ _ _ ho).elim
  ·rename_i ho; exact (n6 _ _ _ ho).elim
  ·rename_i ho; exact (n7 _ _ ho).elim
  ·exact h
theorem T9 {g : Bool} {σ : zw} {o : Oper} {K : zw → Prop} (h : V6 P G g σ o K) : V2 P G g σ o K := by
 unfold V2
 split
 ·rename_i ho
  split
  ·rename_i hf
   split
   ·rename_i hi
    unfold V6 at h
    simp only [ho, hf, Zr] at h
    obtain ⟨h1, h2⟩ := h
    unfold xY at h2
    rw [hi] at h2
    cases g with
    | true => split at h2 <;> exact h2.elim
    | false => split at h2 <;> exact h2
   ·exact h
  ·rename_i hf
   unfold V6 at h
   simp only [ho, hf] at h
   exact h.elim
  ·exact h
 ·exact h
theorem Vq {σ : zw} {o : Oper} {K : zw → Prop} (h : YN P G m ops o σ K) : vG P G ops o σ K := by
 unfold YN at h
 unfold vG
 cases hg : o.guard with
 | none => rw [hg] at h; exact rB h
 | some jw =>
  rw [hg] at h
  simp only at h ⊢
  split at h
  ·rename_i g hga
   simp only [hga]
   cases hc : G.conc && !g with
   | true => rw [hc] at h; exact h
   | false => rw [hc] at h; exact T9 h
  ·exact h.elim
end
end Go.Sx
