/- Regions whose operations come in any order: what only computes or reads may be taken first. -/
import Derived.Test.YtinnclmkhedgeaaGreatDoorSxK
set_option linter.unusedSimpArgs false
set_option linter.unusedVariables false
namespace Go.Sx
open Go Go.RowKit
def AV.top : AV → Option Nat
 | .np k _ | .ns k _ _ | .ap k _ _ | .ps k _ => some k
 | _ => none
section
variable {P : Program} {bl bl' : Nat → OB}
theorem uR {sh : Option Nat} {x : AV} (h : ∀ k, x.top = some k → bl' k = bl k) : yO bl' sh x = yO bl sh x := by
 cases x <;> simp only [yO] <;> rw [h _ rfl]
theorem Ud {x : AV} (h : ∀ k, x.top = some k → bl' k = bl k) : xM bl' x = xM bl x := by
 cases x <;> simp only [xM] <;> first | rw [h _ rfl] | (split <;> first | rfl | (rename_i e; cases e) | simp_all)
theorem UG {P : Program} {bl bl' : Nat → OB} {s d : TypeId} {x : AV} (h : ∀ k, x.top = some k → bl' k = bl k) : Vh P bl' s d x = Vh P bl s d x := by
 have e : vt bl' 1 x = vt bl 1 x := by
  cases x <;> first | rfl | skip
  rename_i k off m
  unfold vt
  simp only [h k rfl]
 unfold Vh
 rw [e]
theorem U3 {x : AV} {d : Nat} (h : ∀ k, x.top = some k → bl' k = bl k) : x.shift bl' d = x.shift bl d := by
 cases x <;> simp only [AV.shift] <;> rw [h _ rfl]
theorem wC {t : TypeId} {x ix : AV} (h : ∀ k, x.top = some k → bl' k = bl k) : yV P bl' t x ix = yV P bl t x ix := by
 unfold yV
 split
 ·split
  ·cases x with
   | ns k off len => have e := h k rfl; cases P.info? _ <;> simp only [e]
   | ps k len => have e := h k rfl; cases P.info? _ <;> simp only [e]
   | _ => cases P.info? _ <;> rfl
  ·cases x with
   | ap k i j => have e := h k rfl; cases P.info? _ <;> cases j <;> simp only [e]
   | np k off => have e := h k rfl; cases P.info? _ <;> simp only [e]
   | _ => cases P.info? _ <;> rfl
  ·rfl
 ·rfl
theorem Uj {t : TypeId} {x : AV} {lo hi mx : Option AV} (h : ∀ k, x.top = some k → bl' k = bl k) : x4 P bl' t x lo hi mx = x4 P bl t x lo hi mx := by
 unfold x4
 rcases P.underlying t with _ | u
 ·rfl
 ·cases u with
  | string =>
   grind
  | slice e =>
   cases x with
   | ns k off len =>
    have e := h k rfl
    grind
   | xl => grind
   | _ => rfl
  | _ => rfl
theorem SY {t : TypeId} {x : AV} (h : ∀ k, x.top = some k → bl' k = bl k) : VY P bl' t x = VY P bl t x := by
 unfold VY
 rcases P.underlying t with _ | u
 ·rfl
 ·cases x with
  | ns k off len =>
   have e := h k rfl
   grind
  | v x => grind
  | _ => cases u <;> rfl
theorem Ro {b : Builtin} {ts : List TypeId} {xs : List AV} (h : ∀ x ∈ xs, ∀ k, x.top = some k → bl' k = bl k) : tD P bl' b ts xs = tD P bl b ts xs := by
 unfold tD
 split <;> first | rfl | exact SY (h _ (by simp))
theorem uq {x : AV} (h : ∀ k, x.top = some k → bl' k = bl k) : Xj bl' x = Xj bl x := by
 unfold Xj
 cases x with
 | ns k off len => simp only [h k rfl]
 | _ => rfl
theorem Tj {op : BinOp} {t : TypeId} {x y : AV} (h1 : ∀ k, x.top = some k → bl' k = bl k) (h2 : ∀ k, y.top = some k → bl' k = bl k) : SB P bl' op t x y = SB P bl op t x y := by
 unfold SB uk
 rw [uq h1]
 cases y with
 | np k' o' => simp only [h2 k' rfl]
 | v u =>
  grind
 | _ => rfl
theorem wm {ob : List (Nat × Obj)} {ev ev' : Operand → AV} {o : Op} (he : ∀ x ∈ o.operands, ev' x = ev x) (hb : ∀ x ∈ o.operands, ∀ k, (ev x).strip.top = some k → bl' k = bl k) :
  ZH P ob bl' ev' o = ZH P ob bl ev o := by
 have hg : ((yZ o).flatMap fun x => (ev' x).gprop) = (yZ o).flatMap fun x => (ev x).gprop := by
  rw [List.flatMap_def, List.flatMap_def]
  congr 1
  refine List.map_congr_left fun x hx => ?_
  rw [he x]
  cases o <;> first | exact Array.mem_toList_iff.1 hx | cases hx
 have hr : zC P ob bl' ev' (fun x => (ev' x).strip) o = zC P ob bl ev (fun x => (ev x).strip) o := by
  have hm : ∀ l : List Operand, (∀ x ∈ l, x ∈ o.operands) → l.map (fun x => (ev' x).strip) = l.map fun x => (ev x).strip := fun l hl => List.map_congr_left fun x hx => by rw [he x (hl x hx)]
  have ho : ∀ l : Option Operand, (∀ x, l = some x → x ∈ o.operands) → l.map (fun x => (ev' x).strip) = l.map fun x => (ev x).strip := fun l hl => by
   cases l with
   | none => rfl
   | some x => simp only [Option.map_some, he x (hl x rfl)]
  cases o with
  | move x => simp only [zC, he x (by simp [Op.operands])]
  | assign x => simp only [zC, he x (by simp [Op.operands])]
  | pick c a b => simp only [zC, he c (by simp [Op.operands]), he a (by simp [Op.operands]), he b (by simp [Op.operands])]
  | load t x =>
   have h := hb x (by simp [Op.operands])
   simp only [zC, he x (by simp [Op.operands]), uR h]
  | nilCheck x =>
   have h := hb x (by simp [Op.operands])
   simp only [zC, he x (by simp [Op.operands]), Ud h]
  | binOp op t x y t' =>
   have h1 := hb x (by simp [Op.operands])
   have h2 := hb y (by simp [Op.operands])
   simp only [zC, he x (by simp [Op.operands]), he y (by simp [Op.operands]), Tj h1 h2]
  | build t parts =>
   have : (parts.toList.map fun p => (p.1, (ev' p.2).strip)) = parts.toList.map fun p => (p.1, (ev p.2).strip) := List.map_congr_left fun p hp => by
    rw [he p.2 (by simp only [Op.operands, List.mem_toArray, List.mem_map]; exact ⟨p, hp, rfl⟩)]
   simp only [zC, this]
  | unOp op t x => simp only [zC, he x (by simp [Op.operands])]
  | convert s d x =>
   have h := hb x (by simp [Op.operands])
   simp only [zC, he x (by simp [Op.operands]), UG h]
  | makeFunc f a b =>
   simp only [zC, hm a.toList fun x hx => by simp only [Op.operands, Array.mem_append]; exact .inl (Array.mem_toList_iff.1 hx),
    hm b.toList fun x hx => by simp only [Op.operands, Array.mem_append]; exact .inr (Array.mem_toList_iff.1 hx)]
  | slice t x a b c =>
   have h := hb x (by simp [Op.operands])
   simp only [zC, he x (by simp [Op.operands]), Uj h, ho a fun x hx => by simp [Op.operands, hx], ho b fun x hx => by simp [Op.operands, hx],
    ho c fun x hx => by simp [Op.operands, hx]]
  | fieldAddr t x f =>
   have h := hb x (by simp [Op.operands])
   simp only [zC, he x (by simp [Op.operands]), U3 h]
  | field t x f => simp only [zC, he x (by simp [Op.operands])]
  | indexAddr t x i =>
   have h := hb x (by simp [Op.operands])
   simp only [zC, he x (by simp [Op.operands]), he i (by simp [Op.operands]), wC h]
  | index t x i => simp only [zC, he x (by simp [Op.operands]), he i (by simp [Op.operands])]
  | extract x i => simp only [zC, he x (by simp [Op.operands])]
  | call c =>
   obtain ⟨cal, args, ts⟩ := c
   cases cal with
   | builtin b =>
    have hin : ∀ x ∈ args.toList, x ∈ (Op.call ⟨.builtin b, args, ts⟩).operands := fun x hx => by simpa [Op.operands, Call.operands] using hx
    simp only [zC, hm _ hin]
    rw [Ro]
    intro x hx k hk
    obtain ⟨y, hy, rfl⟩ := List.mem_map.1 hx
    exact hb y (hin y hy) k hk
   | _ => rfl
  | _ => rfl
 unfold ZH
 rw [hr, hg]
end
def Rl : Option Nat → Nat → Nat
 | none, n => n
 | some m, n => bif Nat.ble m n then m else n
theorem uS (m n : Nat) : Rl (some m) n = if m ≤ n then m else n := by
 show (bif Nat.ble m n then m else n) = _
 simp
theorem R1 {m : Option Nat} {n : Nat} : Rl m n ≤ n := by
 cases m with
 | none => exact Nat.le_refl _
 | some m => rw [uS]; split <;> omega
theorem ri {m n : Nat} : Rl (some m) n ≤ m := by rw [uS]; split <;> omega
theorem RU {m : Option Nat} {n n' : Nat} (h : n ≤ n') : Rl m n ≤ Rl m n' := by
 cases m with
 | none => exact h
 | some m => rw [uS, uS]; split <;> split <;> omega
structure Zm (m : Option Nat) (d : Option Tmp) (σ σ' : zn) : Prop where
 n : σ'.n = σ.n
 nb : σ.nb ≤ σ'.nb
 bl : ∀ k, k < Rl m σ.nb → σ'.bl k = σ.bl k
 tm : ∀ t, d ≠ some t → σ'.tm t = σ.tm t
theorem Zm.refl {m : Option Nat} (d : Option Tmp) (σ : zn) : Zm m d σ σ := ⟨rfl, Nat.le_refl _, fun _ _ => rfl, fun _ _ => rfl⟩
theorem Zm.put {m : Option Nat} {σ σ' : zn} (h : Zm m none σ σ') (d : Option Tmp) (x : AV) : Zm m d σ (σ'.put d x) := by
 cases d with
 | none => exact h
 | some d => exact ⟨h.n, h.nb, h.bl, fun t ht => (zo _ _ fun e => ht (by rw [e])).trans (h.tm t (by simp))⟩
theorem Zm.add {m : Option Nat} (σ : zn) (B : OB) : Zm m none σ (σ.add B) :=
 ⟨rfl, Nat.le_succ _, fun _ hk => zo _ _ (Nat.ne_of_lt (Nat.lt_of_lt_of_le hk R1)), fun _ _ => rfl⟩
theorem Yl (σ : zn) (d : Option Tmp) (x : AV) : (σ.put d x).nb = σ.nb := by cases d <;> rfl
theorem YC (σ : zn) (d : Option Tmp) (x : AV) : (σ.put d x).bl = σ.bl := by cases d <;> rfl
theorem y5 (σ : zn) (d : Option Tmp) (x : AV) (B : OB) : (σ.put d x).add B = (σ.add B).put d x := by cases d <;> rfl
theorem put_comm {σ : zn} {d d' : Option Tmp} {x y : AV} (h : ∀ t, d = some t → d' ≠ some t) : (σ.put d x).put d' y = (σ.put d' y).put d x := by
 cases d with
 | none => rfl
 | some d => cases d' with
  | none => rfl
  | some d' =>
   simp only [zn.put, zn.mk.injEq, true_and, and_true]
   funext t
   by_cases h1 : t = d'
   ·subst h1
    rw [upd_same, zo _ _ (fun e => h d rfl (by rw [e])), upd_same]
   ·rw [zo _ _ h1]
    by_cases h2 : t = d
    ·subst h2; rw [upd_same, upd_same]
    ·rw [zo _ _ h2, zo _ _ h2, zo _ _ h1]
theorem Zm.ev {m : Option Nat} {σ σ' : zn} {d : Option Tmp} (h : Zm m d σ σ') {x : Operand} (hx : ∀ t, x = .tmp t → d ≠ some t) : σ'.ev x = σ.ev x := by
 cases x with
 | tmp t => simp only [zn.ev, h.n, h.tm t (hx t rfl)]
 | _ => rfl
theorem ry {σ : zn} {d : Option Tmp} {v : AV} {x : Operand} (hx : ∀ t, x = .tmp t → d ≠ some t) : (σ.put d v).ev x = σ.ev x := ((Zm.refl (m := none) none σ).put d v).ev hx
def uU : Option Nat → AV → Bool
 | some m, .ns k _ _ => Nat.ble m k
 | _, _ => false
def Yp (P : Program) (G : Cx) (σ : zn) (o : Oper) (f : FuncId) (xs : List AV) (k : zn → Prop) : Prop :=
 match G.own f with
 | some _ => ZR o
 | none =>
  match xL P G f (xs.map (lend σ.bl)) o.type with
  | true => ya P G none f (xs.map (lend σ.bl)) o.type fun r => k (σ.put o.dst r)
  | false => ZR o
def wQ (P : Program) (G : Cx) (m : Option Nat) (σ : zn) (o : Oper) (k : zn → Prop) : Prop :=
 match o.op with
 | .alloc elem =>
  match yF P σ elem with
  | some (σ', r) => k (σ'.put o.dst r)
  | none => ZR o
 | .box t x =>
  match xp σ t (σ.sv x) with
  | some (σ', r) => yy (σ.ev x).gprop (k (σ'.put o.dst r))
  | none => ZR o
 | .store _ _ _ => ZR o
 | .buildSlice t len parts =>
  if ((parts.toList.map fun p => σ.sv p.2).any AV.hasOwn || wT (parts.toList.map (·.2))) = true then ZR o
  else
   match zc P σ t len (parts.toList.map (·.1)) (parts.toList.map fun p => σ.sv p.2) with
   | some (σ', r) => yy (Zx σ (parts.toList.map (·.2))) (k (σ'.put o.dst r))
   | none => ZR o
 | .makeSlice t l c =>
  match ZM P σ t (σ.sv l) (σ.sv c) with
  | some (ps, σ', r) => yy ((σ.ev l).gprop ++ (σ.ev c).gprop ++ ps) (k (σ'.put o.dst r))
  | none => ZR o
 | .call { callee := .value f, args, .. } =>
  match σ.sv f with
  | .fn (.func fid) nf first nc cap =>
   yy ((σ.ev f).gprop ++ Zx σ args.toList) <|
    if (ZF nf first (args.toList.map σ.sv) nc cap).any AV.hasOwn then Yp P G σ o fid (ZF nf first (args.toList.map σ.sv) nc cap) k
    else
     match yS G σ fid (ZF nf first (args.toList.map σ.sv) nc cap) with
     | some (ps, σ', r) => yy ps (k (σ'.put o.dst r))
     | none => xY P G none fid (ZF nf first (args.toList.map σ.sv) nc cap) o.type fun r => k (σ.put o.dst r)
  | _ => ZR o
 | .call { callee := .builtin .append, args, argTypes } =>
  match args.toList, argTypes.toList with
  | [s, x], [t, t'] =>
   if t = t' then
    if ((σ.sv s).hasOwn && !uU m (σ.sv s)) = true then ZR o
    else
     match Zc P σ t (σ.sv s) (σ.sv x) with
     | some (ps, σ', r) => yy ((σ.ev s).gprop ++ (σ.ev x).gprop ++ ps) (k (σ'.put o.dst r))
     | none => ZR o
   else ZR o
  | _, _ => ZR o
 | op =>
  match ZH P G.objs σ.bl σ.ev op with
  | some (ps, r) => yy ps (k (σ.put o.dst r))
  | none => ZR o
def Yo (P : Program) (G : Cx) (m : Option Nat) (ops : List Oper) (o : Oper) (σ : zn) (k : zn → Prop) : Prop :=
 match o.guard with
 | none => wQ P G m σ o k
 | some (j, want) =>
  match Zb ops σ j want with
  | some g =>
   match G.conc && !g with
   | true => k (σ.put o.dst (.gd false (Wo P o.type)))
   | false => uh P G g σ o k
  | none => ZR o
end Go.Sx

namespace Go.Sx
open Go Go.RowKit
section
variable {P : Program} {G : Cx} {m : Option Nat} {ops : List Oper}
theorem vD {σ σ' : zn} {e : TypeId} {r : AV} (h : yF P σ e = some (σ', r)) : Zm m none σ σ' ∧ ∀ (d : Option Tmp) (x : AV), yF P (σ.put d x) e = some (σ'.put d x, r) := by
 unfold yF at h ⊢
 repeat' split at h
 all_goals first | cases h | skip
 ·rename_i hc
  refine ⟨Zm.add _ _, fun d x => ?_⟩
  simp only [y5, Yl, if_pos hc]
 ·rename_i hn hc
  refine ⟨Zm.add _ _, fun d x => ?_⟩
  simp only [y5, Yl, if_neg hn, if_pos hc]
 ·rename_i hc
  refine ⟨Zm.add _ _, fun d x => ?_⟩
  simp only [y5, Yl, if_pos hc]
theorem U4 {σ σ' : zn} {t : TypeId} {v r : AV} (h : xp σ t v = some (σ', r)) : Zm m none σ σ' ∧ ∀ (d : Option Tmp) (x : AV), xp (σ.put d x) t v = some (σ'.put d x, r) := by
 unfold xp at h ⊢
 split at h
 ·rename_i n cs hc
  cases h
  exact ⟨Zm.add _ _, fun d x => by simp only [YC, Yl, y5, hc]⟩
 ·cases h
theorem vF {σ σ' : zn} {t : TypeId} {n : Nat} {idx : List Nat} {xs : List AV} {r : AV} (h : zc P σ t n idx xs = some (σ', r)) :
  Zm m none σ σ' ∧ ∀ (d : Option Tmp) (x : AV), zc P (σ.put d x) t n idx xs = some (σ'.put d x, r) := by
 obtain ⟨rfl, h2⟩ := Z9 h
 exact ⟨Zm.refl _ _, fun d x => h2 _⟩
theorem V8 {σ σ' : zn} {t : TypeId} {l c r : AV} {ps : List zO} (h : ZM P σ t l c = some (ps, σ', r)) :
  Zm m none σ σ' ∧ ∀ (d : Option Tmp) (x : AV), ZM P (σ.put d x) t l c = some (ps, σ'.put d x, r) := by
 unfold ZM at h ⊢
 repeat' split at h
 all_goals first | cases h | skip
 rename_i hc
 refine ⟨Zm.add _ _, fun d x => ?_⟩
 simp only [y5, Yl, if_pos hc]
theorem U8 {G : Cx} {σ σ' : zn} {f : FuncId} {xs : List AV} {r : AV} {ps : List zO} (h : yS G σ f xs = some (ps, σ', r)) :
  Zm m none σ σ' ∧ ∀ d x, yS G (σ.put d x) f xs = some (ps, σ'.put d x, r) := by
 unfold yS at h ⊢
 split at h
 ·rename_i hf
  cases h
  exact ⟨Zm.add _ _, fun d x => by simp only [y5, Yl]⟩
 ·cases h
theorem Uh {G : Cx} {σ : zn} {d : Option Tmp} {x : AV} {f : FuncId} {xs : List AV} (h : yS G (σ.put d x) f xs = none) : yS G σ f xs = none := by
 unfold yS at h ⊢
 grind
theorem sq {m : Option Nat} {x : AV} (h : ¬ ((x.hasOwn && !uU m x) = true)) : x.hasOwn = false ∨ uU m x = true := by
 grind
theorem xN {σ σ' : zn} {t : TypeId} {s v r : AV} {ps : List zO} (hs : s.hasOwn = false ∨ uU m s = true) (h : Zc P σ t s v = some (ps, σ', r)) :
  Zm m none σ σ' ∧ ∀ (d : Option Tmp) (x : AV), Zc P (σ.put d x) t s v = some (ps, σ'.put d x, r) := by
 unfold Zc at h ⊢
 repeat' split at h
 all_goals first | cases h | skip
 ·refine ⟨Zm.add _ _, fun d x => ?_⟩
  simp only [y5, Yl, YC]
  simp_all
 ·refine ⟨⟨rfl, Nat.le_refl _, fun k' _ => rfl, fun _ _ => rfl⟩, fun d x => ?_⟩
  simp only [YC]
  simp_all
 ·refine ⟨Zm.add _ _, fun d x => ?_⟩
  simp only [y5, Yl, YC]
  simp_all
 ·rename_i k n _ _ _ _ _ _ hcc
  have hm : ∀ k', k' < Rl m σ.nb → k' ≠ k := by
   rcases hs with hs | hs
   ·cases hs
   ·cases m with
    | none => cases hs
    | some m' =>
     have h1 : m' ≤ k := Nat.le_of_ble_eq_true hs
     intro k' hk'
     have := ri (m := m') (n := σ.nb)
     omega
  refine ⟨⟨rfl, Nat.le_succ _, fun k' hk' => ?_, fun _ _ => rfl⟩, fun d x => ?_⟩
  ·show upd (upd σ.bl k .dead) σ.nb _ k' = _
   rw [zo _ _ (Nat.ne_of_lt (Nat.lt_of_lt_of_le hk' R1)), zo _ _ (hm k' hk')]
  ·simp only [Yl, YC]
   cases d <;> simp_all [zn.put]
def old (σ : zn) : Option Tmp → AV
 | some t => σ.tm t
 | none => .junk
theorem sZ (σ : zn) (d : Option Tmp) (x : AV) : (σ.put d x).put d (old σ d) = σ := by
 cases d with
 | none => rfl
 | some d =>
  obtain ⟨n, tm, nb, bl⟩ := σ
  simp only [zn.put, old, zn.mk.injEq, true_and, and_true]
  funext t
  by_cases h : t = d
  ·subst h; rw [upd_same]
  ·rw [zo _ _ h, zo _ _ h]
theorem qW {f : zn → Option (zn × AV)} (hf : ∀ σ σ' r, f σ = some (σ', r) → Zm m none σ σ' ∧ ∀ d x, f (σ.put d x) = some (σ'.put d x, r)) {σ σ1 : zn} {d : Option Tmp} {x r : AV}
  (h : f (σ.put d x) = some (σ1, r)) : ∃ σ', f σ = some (σ', r) ∧ Zm m none σ σ' ∧ σ1 = σ'.put d x := by
 obtain ⟨h1, h2⟩ := hf _ _ _ h
 have h3 := h2 d (old σ d)
 rw [sZ] at h3
 grind
theorem rP {f : zn → Option (List zO × zn × AV)} (hf : ∀ σ ps σ' r, f σ = some (ps, σ', r) → Zm m none σ σ' ∧ ∀ d x, f (σ.put d x) = some (ps, σ'.put d x, r)) {σ σ1 : zn} {d : Option Tmp} {x r : AV} {ps : List zO}
  (h : f (σ.put d x) = some (ps, σ1, r)) : ∃ σ', f σ = some (ps, σ', r) ∧ Zm m none σ σ' ∧ σ1 = σ'.put d x := by
 obtain ⟨h1, h2⟩ := hf _ _ _ _ h
 have h3 := h2 d (old σ d)
 rw [sZ] at h3
 grind
theorem ZU {σ σ' : zn} {d d' : Option Tmp} {x y : AV} {K : zn → Prop} (h : Zm m none σ σ') (hd : ∀ t, d = some t → d' ≠ some t) (hK : K ((σ'.put d x).put d' y)) :
  Zm m d' σ (σ'.put d' y) ∧ K ((σ'.put d' y).put d x) := ⟨h.put d' y, by rw [put_comm hd] at hK; exact hK⟩
theorem s8 {σ : zn} {d : Option Tmp} {x : AV} {j : Nat} {want : Bool} (h : ∀ t, d = some t → (ops[j]?).bind (·.dst) ≠ some t) : Zb ops (σ.put d x) j want = Zb ops σ j want := by
 unfold Zb
 cases ho : ops[j]? with
 | none => rfl
 | some o =>
  simp only
  cases hd : o.dst with
  | none => rfl
  | some t =>
   simp only
   cases d with
   | none => rfl
   | some d =>
    have hne : t ≠ d := fun e => h d rfl (by rw [ho, Option.bind_some, hd, e])
    simp only [zn.put, zo _ _ hne]
theorem wk {ex : TypeId → (AV → Prop) → Prop} (hex : ∀ t k k', (∀ r, k r → k' r) → ex t k → ex t k') : ∀ (ts : List TypeId) (k k' : List AV → Prop), (∀ r, k r → k' r) → xR ex ts k → xR ex ts k'
 | [], _, _, h, hk => h _ hk
 | _ :: ts, _, _, h, hk => hex _ _ _ (fun _ hv => wk hex ts _ _ (fun _ hr => h _ hr) hv) hk
theorem VH : ∀ (n : Nat) (t : TypeId) (k k' : AV → Prop), (∀ r, k r → k' r) → wc P n t k → wc P n t k'
 | 0, _, _, _, h, ⟨r, hr⟩ => ⟨r, h _ hr⟩
 | n + 1, t, k, k', h, hk => by
  unfold wc at hk ⊢
  split at hk
  ·grind
  ·grind
  ·grind
  ·grind
  ·exact wk (VH n) _ _ _ (fun r hr => h _ hr) hk
  grind
theorem zj {ps : List zO} {k k' : Prop} (h : k → k') (hp : yy ps k) : yy ps k' := by
 rw [zd] at hp ⊢
 simp_all
theorem yN {g : Bool} {ps : List zO} {k k' : Prop} (h : k → k') (hp : Uu g ps k) : Uu g ps k' := by
 rw [Zl] at hp ⊢
 simp_all
theorem WB {o : Oper} {d : Option Tmp} (h : ∀ t, d = some t → t ∉ o.looksAt ops.toArray) : ∀ x ∈ o.op.operands, ∀ t, x = .tmp t → d ≠ some t := fun x hx t hxt hd =>
 h t hd (List.mem_append_left _ (List.mem_filterMap.2 ⟨x, Array.mem_toList_iff.2 hx, by rw [hxt]⟩))
theorem wF {o : Oper} {d : Option Tmp} {j : Nat} {want : Bool} (h : ∀ t, d = some t → t ∉ o.looksAt ops.toArray) (hg : o.guard = some (j, want)) :
  ∀ t, d = some t → (ops[j]?).bind (·.dst) ≠ some t := fun t hd he =>
 h t hd (List.mem_append_right _ (by rw [hg]; simp only [List.getElem?_toArray]; rw [he]; simp))
theorem WI {g : Option Bool} {ps : List zO} {k k' : Prop} (h : k → k') (hp : rz g ps k) : rz g ps k' := by
 cases g with
 | none => exact zj h hp
 | some g => exact yN h hp
theorem Z1 {P : Program} {G : Cx} {g : Option Bool} {f : FuncId} {xs : List AV} {t : TypeId} {K K' : AV → Prop} (h : ∀ r, K r → K' r) (hk : ya P G g f xs t K) : ya P G g f xs t K' := by
 unfold ya at hk ⊢
 split at hk
 ·exact WI (h _) hk
 ·exact VH 3 _ _ _ (fun r hr => ⟨hr.1, h r hr.2⟩) hk
theorem xz {P : Program} {G : Cx} {g : Option Bool} {f : FuncId} {xs : List AV} {t : TypeId} {K K' : AV → Prop} (h : ∀ r, K r → K' r) (hk : xY P G g f xs t K) : xY P G g f xs t K' := by
 unfold xY at hk ⊢
 split at hk
 ·grind
 ·exact Z1 h hk
theorem Z7 {σ σ' : zn} {l : List Operand} (h : ∀ x ∈ l, σ'.ev x = σ.ev x) : Zx σ' l = Zx σ l := by
 unfold Zx
 rw [List.flatMap_def, List.flatMap_def]
 congr 1
 simp_all
theorem Z5 {σ σ' : zn} {x : Operand} (h : σ'.ev x = σ.ev x) : σ'.sv x = σ.sv x := by unfold zn.sv; rw [h]
theorem Ur {σ : zn} {o : Oper} {d : Option Tmp} {x : AV} {f : FuncId} {xs : List AV} {K : zn → Prop} (h2 : ∀ t, d = some t → o.dst ≠ some t) (h : Yp P G (σ.put d x) o f xs K) :
  Yp P G σ o f xs fun σ' => Zm m o.dst σ σ' ∧ K (σ'.put d x) := by
 unfold Yp at h ⊢
 simp only [YC, Yl, y5] at h
 split at h
 ·exact h.elim
 ·split at h
  ·exact Z1 (fun r hk => ZU (Zm.refl none σ) h2 hk) h
  omega
theorem V9 {σ : zn} {o : Oper} {f : FuncId} {xs : List AV} {K K' : zn → Prop} (hk : ∀ σ, K σ → K' σ) (h : Yp P G σ o f xs K) : Yp P G σ o f xs K' := by
 unfold Yp at h ⊢
 split at h
 ·exact h.elim
 ·split at h
  ·exact Z1 (fun r h => hk _ h) h
  omega
theorem qt {σ : zn} {o : Oper} {d : Option Tmp} {x : AV} {K : zn → Prop} (h1 : ∀ x ∈ o.op.operands, ∀ t, x = .tmp t → d ≠ some t) (h2 : ∀ t, d = some t → o.dst ≠ some t)
  (h : wQ P G m (σ.put d x) o K) : wQ P G m σ o fun σ' => Zm m o.dst σ σ' ∧ K (σ'.put d x) := by
 have hev : ∀ y ∈ o.op.operands, (σ.put d x).ev y = σ.ev y := fun y hy => ry (h1 y hy)
 have hsv : ∀ y ∈ o.op.operands, (σ.put d x).sv y = σ.sv y := fun y hy => Z5 (hev y hy)
 have gr : ∀ r, K ((σ.put d x).put o.dst r) → Zm m o.dst σ (σ.put o.dst r) ∧ K ((σ.put o.dst r).put d x) := fun r hk => ZU (Zm.refl none σ) h2 hk
 unfold wQ at h ⊢
 split at h
 ·rename_i e ho
  simp only
  split at h
  ·rename_i σ1 r he
   obtain ⟨σ', g1, g2, rfl⟩ := qW (f := fun σ => yF P σ e) (fun _ _ _ h => vD h) he
   simp only [g1]
   exact ZU g2 h2 h
  ·exact h.elim
 ·rename_i t y ho
  have e1 := hev y (by rw [ho]; simp [Op.operands])
  have e2 := hsv y (by rw [ho]; simp [Op.operands])
  simp only [e1, e2] at h
  simp only
  split at h
  ·rename_i σ1 r he
   obtain ⟨σ', g1, g2, rfl⟩ := qW (f := fun s => xp s t (σ.sv y)) (fun _ _ _ h => U4 h) he
   simp only [g1]
   exact zj (ZU g2 h2) h
  ·exact h.elim
 ·exact h.elim
 ·rename_i t n parts ho
  have hin : ∀ p ∈ parts.toList, p.2 ∈ o.op.operands := fun p hp => by rw [ho]; simp only [Op.operands, List.mem_toArray, List.mem_map]; exact ⟨p, hp, rfl⟩
  have e1 : (parts.toList.map fun p => (σ.put d x).sv p.2) = parts.toList.map fun p => σ.sv p.2 := List.map_congr_left fun p hp => hsv _ (hin p hp)
  have e2 : Zx (σ.put d x) (parts.toList.map (·.2)) = Zx σ (parts.toList.map (·.2)) := Z7 fun y hy => by
   obtain ⟨p, hp, rfl⟩ := List.mem_map.1 hy
   exact hev _ (hin p hp)
  simp only [e1, e2] at h
  simp only
  split at h
  ·exact h.elim
  ·rename_i hno
   rw [if_neg hno]
   split at h
   ·rename_i σ1 r he
    obtain ⟨σ', g1, g2, rfl⟩ := qW (f := fun s => zc P s t n (parts.toList.map fun p : Nat × Operand => p.1) (parts.toList.map fun p : Nat × Operand => σ.sv p.2)) (fun _ _ _ h => vF h) he
    simp only [g1]
    exact zj (ZU g2 h2) h
   ·exact h.elim
 ·rename_i t l c ho
  have e1 := hev l (by rw [ho]; simp [Op.operands])
  have e2 := hev c (by rw [ho]; simp [Op.operands])
  simp only [e1, e2, Z5 e1, Z5 e2] at h
  simp only
  split at h
  ·rename_i ps σ1 r he
   obtain ⟨σ', g1, g2, rfl⟩ := rP (f := fun s => ZM P s t (σ.sv l) (σ.sv c)) (fun _ _ _ _ h => V8 h) he
   simp only [g1]
   exact zj (ZU g2 h2) h
  ·exact h.elim
 ·rename_i f args ts ho
  have e1 := hev f (by rw [ho]; simp [Op.operands, Call.operands])
  have hin : ∀ y ∈ args.toList, y ∈ o.op.operands := fun y hy => by rw [ho]; simp only [Op.operands, Call.operands, Array.mem_append]; exact .inr (Array.mem_toList_iff.1 hy)
  have e2 : args.toList.map (σ.put d x).sv = args.toList.map σ.sv := List.map_congr_left fun y hy => hsv _ (hin y hy)
  have e3 : Zx (σ.put d x) args.toList = Zx σ args.toList := Z7 fun y hy => hev _ (hin y hy)
  simp only [e1, e2, e3, Z5 e1] at h
  simp only
  split at h
  ·refine zj (fun h => ?_) h
   split at h
   ·rename_i hown
    rw [if_pos hown]
    exact Ur h2 h
   ·rename_i hno
    rw [if_neg hno]
    split at h
    ·rename_i ps σ1 r he
     obtain ⟨σ', g1, g2, rfl⟩ := rP (f := fun u => yS G u _ _) (fun _ _ _ _ h => U8 h) he
     simp only [g1]
     exact zj (ZU g2 h2) h
    ·rename_i he
     rw [Uh he]
     exact xz gr h
  ·exact h.elim
 ·rename_i args ts ho
  have hin : ∀ y ∈ args.toList, y ∈ o.op.operands := fun y hy => by rw [ho]; simp only [Op.operands, Call.operands, Array.mem_append]; exact .inr (Array.mem_toList_iff.1 hy)
  simp only
  split at h
  ·rename_i s y t t' ha ht
   have e1 := hev s (hin s (by rw [ha]; simp))
   have e2 := hev y (hin y (by rw [ha]; simp))
   simp only [e1, e2, Z5 e1, Z5 e2] at h
   split at h
   ·rename_i htt
    rw [if_pos htt]
    split at h
    ·exact h.elim
    ·rename_i hno
     rw [if_neg hno]
     split at h
     ·rename_i ps σ1 r he
      obtain ⟨σ', g1, g2, rfl⟩ := rP (f := fun u => Zc P u t (σ.sv s) (σ.sv y)) (fun _ _ _ _ h => xN (sq hno) h) he
      simp only [g1]
      exact zj (ZU g2 h2) h
     ·rename_i he0
      have e0 : Zc P σ t (σ.sv s) (σ.sv y) = none := by
       cases h0 : Zc P σ t (σ.sv s) (σ.sv y) with
       | none => rfl
       | some q =>
        obtain ⟨ps, σ1, r⟩ := q
        rw [(xN (sq hno) h0).2 d x] at he0
        cases he0
      exact h.elim
   ·exact h.elim
  ·exact h.elim
 ·have e : ZH P G.objs (σ.put d x).bl (σ.put d x).ev o.op = ZH P G.objs σ.bl σ.ev o.op := wm hev fun _ _ _ _ => by rw [YC]
  rw [e] at h
  split at h
  ·rename_i ps r he
   exact zj (gr r) h
  ·exact h.elim
theorem qA {g : Bool} {σ : zn} {o : Oper} {d : Option Tmp} {x : AV} {K : zn → Prop} (h1 : ∀ x ∈ o.op.operands, ∀ t, x = .tmp t → d ≠ some t) (h2 : ∀ t, d = some t → o.dst ≠ some t)
  (h : uh P G g (σ.put d x) o K) : uh P G g σ o fun σ' => Zm m o.dst σ σ' ∧ K (σ'.put d x) := by
 have hev : ∀ y ∈ o.op.operands, (σ.put d x).ev y = σ.ev y := fun y hy => ry (h1 y hy)
 have hsv : ∀ y ∈ o.op.operands, (σ.put d x).sv y = σ.sv y := fun y hy => Z5 (hev y hy)
 have gr : ∀ r, K ((σ.put d x).put o.dst r) → Zm m o.dst σ (σ.put o.dst r) ∧ K ((σ.put o.dst r).put d x) := fun r hk => ZU (Zm.refl none σ) h2 hk
 unfold uh at h ⊢
 split at h
 ·rename_i f args ts ho
  have e1 := hev f (by rw [ho]; simp [Op.operands, Call.operands])
  have hin : ∀ y ∈ args.toList, y ∈ o.op.operands := fun y hy => by rw [ho]; simp only [Op.operands, Call.operands, Array.mem_append]; exact .inr (Array.mem_toList_iff.1 hy)
  have e2 : args.toList.map (σ.put d x).sv = args.toList.map σ.sv := List.map_congr_left fun y hy => hsv _ (hin y hy)
  have e3 : Zx (σ.put d x) args.toList = Zx σ args.toList := Z7 fun y hy => hev _ (hin y hy)
  simp only [e1, e2, e3, Z5 e1, YC] at h
  simp only
  split at h
  ·refine yN (fun h => ?_) h
   split at h
   ·rename_i hno
    rw [if_pos hno]
    split at h
    ·split at h
     ·exact gr _ h
     ·exact h.elim
    ·split at h
     ·rename_i hs
      rw [if_pos hs]
      exact Z1 (fun r hr => gr _ hr) h
     ·exact h.elim
   ·rename_i hno
    rw [if_neg hno]
    exact xz (fun r hr => gr _ hr) h
  ·exact h.elim
 ·rename_i tb lb parts ho
  have hin : ∀ p ∈ parts.toList, p.2 ∈ o.op.operands := fun p hp => by rw [ho]; simp only [Op.operands, List.mem_toArray, List.mem_map]; exact ⟨p, hp, rfl⟩
  have e1 : (parts.toList.map fun p => (σ.put d x).sv p.2) = parts.toList.map fun p => σ.sv p.2 := List.map_congr_left fun p hp => hsv _ (hin p hp)
  have e2 : Zx (σ.put d x) (parts.toList.map (·.2)) = Zx σ (parts.toList.map (·.2)) := Z7 fun y hy => by
   obtain ⟨p, hp, rfl⟩ := List.mem_map.1 hy
   exact hev _ (hin p hp)
  rw [e1, e2] at h
  split at h
  ·exact h.elim
  ·rename_i hno
   rw [if_neg hno]
   split at h
   ·rename_i σ1 r he
    rw [(Z9 he).2 σ]
    exact yN (gr _) h
   ·exact h.elim
 ·have e : ZH P G.objs (σ.put d x).bl (σ.put d x).ev o.op = ZH P G.objs σ.bl σ.ev o.op := wm hev fun _ _ _ _ => by rw [YC]
  rw [e] at h
  split at h
  ·exact yN (gr _) h
  ·exact h.elim
theorem Sv {σ : zn} {o : Oper} {d : Option Tmp} {x : AV} {K : zn → Prop} (h1 : ∀ t, d = some t → t ∉ o.looksAt ops.toArray) (h2 : ∀ t, d = some t → o.dst ≠ some t)
  (h : Yo P G m ops o (σ.put d x) K) : Yo P G m ops o σ fun σ' => Zm m o.dst σ σ' ∧ K (σ'.put d x) := by
 unfold Yo at h ⊢
 split at h
 ·exact qt (WB h1) h2 h
 ·rename_i j want hg
  rw [s8 (wF h1 hg)] at h
  split at h
  ·rename_i g _
   cases hc : G.conc && !g with
   | true =>
    rw [hc] at h
    exact ZU (Zm.refl none σ) h2 h
   | false =>
    rw [hc] at h
    exact qA (WB h1) h2 h
  omega
theorem Sn {σ : zn} {o : Oper} {K K' : zn → Prop} (hk : ∀ σ, K σ → K' σ) (h : wQ P G m σ o K) : wQ P G m σ o K' := by
 unfold wQ at h ⊢
 split at h
 ·grind
 ·split at h
  ·exact zj (hk _) h
  ·exact h
 ·exact h
 ·split at h
  ·exact h.elim
  ·rename_i hno
   rw [if_neg hno]
   split at h
   ·exact zj (hk _) h
   ·exact h
 ·split at h
  ·exact zj (hk _) h
  ·exact h
 ·split at h
  ·refine zj (fun h => ?_) h
   split at h
   ·rename_i hown
    rw [if_pos hown]
    exact V9 hk h
   ·rename_i hno
    rw [if_neg hno]
    split at h
    ·exact zj (hk _) h
    ·exact xz (fun r hr => hk _ hr) h
  ·exact h
 ·split at h
  ·split at h
   ·rename_i htt
    rw [if_pos htt]
    split at h
    ·exact h.elim
    ·rename_i hno
     rw [if_neg hno]
     split at h
     ·exact zj (hk _) h
     ·exact h
   simp_all
  ·exact h
 ·split at h
  ·exact zj (hk _) h
  ·exact h
theorem XD {g : Bool} {σ : zn} {o : Oper} {K K' : zn → Prop} (hk : ∀ σ, K σ → K' σ) (h : uh P G g σ o K) : uh P G g σ o K' := by
 unfold uh at h ⊢
 split at h
 ·split at h
  ·refine yN (fun h => ?_) h
   split at h
   ·rename_i hno
    rw [if_pos hno]
    split at h
    ·grind
    ·split at h
     ·rename_i hs
      rw [if_pos hs]
      exact Z1 (fun r hr => hk _ hr) h
     simp_all
   ·rename_i hno
    rw [if_neg hno]
    exact xz (fun r hr => hk _ hr) h
  ·exact h
 ·split at h
  ·exact h.elim
  ·rename_i hno
   rw [if_neg hno]
   split at h
   ·exact yN (hk _) h
   ·exact h
 ·split at h
  ·exact yN (hk _) h
  ·exact h
theorem Xo {σ : zn} {o : Oper} {K K' : zn → Prop} (hk : ∀ σ, K σ → K' σ) (h : Yo P G m ops o σ K) : Yo P G m ops o σ K' := by
 unfold Yo at h ⊢
 split at h
 ·exact Sn hk h
 ·split at h
  ·rename_i g _
   cases hc : G.conc && !g with
   | true => simp_all
   | false => rw [hc] at h; exact XD hk h
  ·exact h
theorem vf {σ : zn} {xs : List AV} (h : ¬ (xs.any AV.hasOwn) = true) : YS σ xs = some (σ, xs) := by unfold YS; rw [if_neg h]
theorem rB {σ : zn} {o : Oper} {K : zn → Prop} (h : wQ P G m σ o K) : pS P G σ o K := by
 unfold wQ at h
 unfold pS
 split at h
 ·grind
 ·grind
 ·exact h.elim
 ·rename_i ho
  simp only [ho]
  split at h
  ·exact h.elim
  ·rename_i hno
   rw [uv hno, vf fun h => hno (by rw [h]; rfl)]
   exact h
 ·grind
 ·rename_i ho
  simp only [ho]
  split at h
  ·rename_i hf
   simp only [hf]
   refine zj (fun h => ?_) h
   split at h
   ·rename_i hown
    unfold xk
    rw [if_pos hown]
    unfold Yp at h
    split at h
    ·exact h.elim
    ·rename_i ho0
     rw [ho0]
     simp only
     split at h
     ·simp_all
     ·exact h.elim
   ·rename_i hno
    unfold xk
    rw [if_neg hno]
    split at h
    ·simp_all
    rename_i he
    rw [he]
    unfold xY at h
    split at h
    ·exact h.elim
    ·exact h
  ·exact h.elim
 ·rename_i ho
  simp only [ho]
  split at h
  ·rename_i ha ht
   simp only [ha, ht]
   split at h
   ·split at h
    ·exact h.elim
    grind
   ·exact h.elim
  simp_all
 grind
theorem Sq {g : Bool} {σ : zn} {o : Oper} {K : zn → Prop} (h : uh P G g σ o K) : Ve P G g σ o K := by
 unfold Ve
 split
 ·rename_i ho
  split
  ·rename_i hf
   split
   ·rename_i hi
    unfold uh at h
    simp only [ho, hf, Zl] at h
    obtain ⟨h1, h2⟩ := h
    unfold xY at h2
    rw [hi] at h2
    cases g with
    | true => split at h2 <;> exact h2.elim
    | false => split at h2 <;> exact h2
   ·exact h
  ·rename_i hf
   unfold uh at h
   simp only [ho, hf] at h
   exact h.elim
  ·exact h
 ·exact h
theorem VQ {σ : zn} {o : Oper} {K : zn → Prop} (h : Yo P G m ops o σ K) : vh P G ops o σ K := by
 unfold Yo at h
 unfold vh
 cases hg : o.guard with
 | none => rw [hg] at h; exact rB h
 | some jw =>
  rw [hg] at h
  simp only at h ⊢
  split at h
  ·rename_i g hga
   simp only [hga]
   cases hc : G.conc && !g with
   | true => simp_all
   | false => rw [hc] at h; exact Sq h
  simp_all
end
end Go.Sx
