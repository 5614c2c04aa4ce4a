/- Regions whose operations come in any order: what only computes or reads may be taken first. -/
import Derived.Test.YtinnclmkhedgeaaGreatDoorSxK
set_option linter.unusedSimpArgs false
set_option linter.unusedVariables false
namespace Go.Sx
open Go Go.RowKit
def AV.top : AV → Option Nat
 | .np k _ | .ns k _ _ | .ap k _ _ | .ps k _ => some k
 | _ => none
section
variable {P : Program} {bl bl' : Nat → OB}
theorem Vt {sh : Option Nat} {x : AV} (h : ∀ k, x.top = some k → bl' k = bl k) : yV bl' sh x = yV bl sh x := by
 cases x <;> simp only [yV] <;> rw [h _ rfl]
theorem uM {x : AV} (h : ∀ k, x.top = some k → bl' k = bl k) : xz bl' x = xz bl x := by
 cases x <;> simp only [xz] <;> first | rw [h _ rfl] | (split <;> first | rfl | (rename_i e; cases e) | simp_all)
theorem uD {P : Program} {bl bl' : Nat → OB} {s d : TypeId} {x : AV} (h : ∀ k, x.top = some k → bl' k = bl k) : W8 P bl' s d x = W8 P bl s d x := by
 have e : wk bl' 1 x = wk bl 1 x := by
  cases x <;> first | rfl | skip
  rename_i k off m
  unfold wk
  simp only [h k rfl]
 unfold W8
 rw [e]
theorem uq {x : AV} {d : Nat} (h : ∀ k, x.top = some k → bl' k = bl k) : x.shift bl' d = x.shift bl d := by
 cases x <;> simp only [AV.shift] <;> rw [h _ rfl]
theorem wY {t : TypeId} {x ix : AV} (h : ∀ k, x.top = some k → bl' k = bl k) : Z2 P bl' t x ix = Z2 P bl t x ix := by
 unfold Z2
 split
 ·split
  ·cases x with
   | ns k off len => have e := h k rfl; cases P.info? _ <;> simp only [e]
   | ps k len => have e := h k rfl; cases P.info? _ <;> simp only [e]
   | _ => cases P.info? _ <;> rfl
  ·cases x with
   | ap k i j => have e := h k rfl; cases P.info? _ <;> cases j <;> simp only [e]
   | np k off => have e := h k rfl; cases P.info? _ <;> simp only [e]
   | _ => cases P.info? _ <;> rfl
  ·rfl
 ·rfl
theorem uR {t : TypeId} {x : AV} {lo hi mx : Option AV} (h : ∀ k, x.top = some k → bl' k = bl k) : xO P bl' t x lo hi mx = xO P bl t x lo hi mx := by
 unfold xO
 rcases P.underlying t with _ | u
 ·rfl
 ·cases u with
  | string =>
   grind
  | slice e =>
   cases x with
   | ns k off len =>
    have e := h k rfl
    grind
   | xl => grind
   | _ => rfl
  | _ => rfl
theorem TN {t : TypeId} {x : AV} (h : ∀ k, x.top = some k → bl' k = bl k) : vj P bl' t x = vj P bl t x := by
 unfold vj
 rcases P.underlying t with _ | u
 ·rfl
 ·cases x with
  | ns k off len =>
   have e := h k rfl
   grind
  | v x => grind
  | _ => cases u <;> rfl
theorem sV {b : Builtin} {ts : List TypeId} {xs : List AV} (h : ∀ x ∈ xs, ∀ k, x.top = some k → bl' k = bl k) : tx P bl' b ts xs = tx P bl b ts xs := by
 unfold tx
 split <;> first | rfl | exact TN (h _ (by simp))
theorem VT {x : AV} (h : ∀ k, x.top = some k → bl' k = bl k) : xC bl' x = xC bl x := by
 unfold xC
 cases x with
 | ns k off len => simp only [h k rfl]
 | _ => rfl
theorem UA {op : BinOp} {t : TypeId} {x y : AV} (h1 : ∀ k, x.top = some k → bl' k = bl k) (h2 : ∀ k, y.top = some k → bl' k = bl k) : T5 P bl' op t x y = T5 P bl op t x y := by
 unfold T5 VE
 rw [VT h1]
 cases y with
 | np k' o' => simp only [h2 k' rfl]
 | v u =>
  grind
 | _ => rfl
theorem Xe {ob : List (Nat × Obj)} {ev ev' : Operand → AV} {o : Op} (he : ∀ x ∈ o.operands, ev' x = ev x) (hb : ∀ x ∈ o.operands, ∀ k, (ev x).strip.top = some k → bl' k = bl k) :
  ZM P ob bl' ev' o = ZM P ob bl ev o := by
 have hg : ((Zb o).flatMap fun x => (ev' x).gprop) = (Zb o).flatMap fun x => (ev x).gprop := by
  rw [List.flatMap_def, List.flatMap_def]
  congr 1
  refine List.map_congr_left fun x hx => ?_
  rw [he x]
  cases o <;> first | exact Array.mem_toList_iff.1 hx | cases hx
 have hr : zc P ob bl' ev' (fun x => (ev' x).strip) o = zc P ob bl ev (fun x => (ev x).strip) o := by
  have hm : ∀ l : List Operand, (∀ x ∈ l, x ∈ o.operands) → l.map (fun x => (ev' x).strip) = l.map fun x => (ev x).strip := fun l hl => List.map_congr_left fun x hx => by rw [he x (hl x hx)]
  have ho : ∀ l : Option Operand, (∀ x, l = some x → x ∈ o.operands) → l.map (fun x => (ev' x).strip) = l.map fun x => (ev x).strip := fun l hl => by
   cases l with
   | none => rfl
   | some x => simp only [Option.map_some, he x (hl x rfl)]
  cases o with
  | move x => simp only [zc, he x (by simp [Op.operands])]
  | assign x => simp only [zc, he x (by simp [Op.operands])]
  | pick c a b => simp only [zc, he c (by simp [Op.operands]), he a (by simp [Op.operands]), he b (by simp [Op.operands])]
  | load t x =>
   have h := hb x (by simp [Op.operands])
   simp only [zc, he x (by simp [Op.operands]), Vt h]
  | nilCheck x =>
   have h := hb x (by simp [Op.operands])
   simp only [zc, he x (by simp [Op.operands]), uM h]
  | binOp op t x y t' =>
   have h1 := hb x (by simp [Op.operands])
   have h2 := hb y (by simp [Op.operands])
   simp only [zc, he x (by simp [Op.operands]), he y (by simp [Op.operands]), UA h1 h2]
  | build t parts =>
   have : (parts.toList.map fun p => (p.1, (ev' p.2).strip)) = parts.toList.map fun p => (p.1, (ev p.2).strip) := List.map_congr_left fun p hp => by
    rw [he p.2 (by simp only [Op.operands, List.mem_toArray, List.mem_map]; exact ⟨p, hp, rfl⟩)]
   simp only [zc, this]
  | unOp op t x => simp only [zc, he x (by simp [Op.operands])]
  | convert s d x =>
   have h := hb x (by simp [Op.operands])
   simp only [zc, he x (by simp [Op.operands]), uD h]
  | makeFunc f a b =>
   simp only [zc, hm a.toList fun x hx => by simp only [Op.operands, Array.mem_append]; exact .inl (Array.mem_toList_iff.1 hx),
    hm b.toList fun x hx => by simp only [Op.operands, Array.mem_append]; exact .inr (Array.mem_toList_iff.1 hx)]
  | slice t x a b c =>
   have h := hb x (by simp [Op.operands])
   simp only [zc, he x (by simp [Op.operands]), uR h, ho a fun x hx => by simp [Op.operands, hx], ho b fun x hx => by simp [Op.operands, hx],
    ho c fun x hx => by simp [Op.operands, hx]]
  | fieldAddr t x f =>
   have h := hb x (by simp [Op.operands])
   simp only [zc, he x (by simp [Op.operands]), uq h]
  | field t x f => simp only [zc, he x (by simp [Op.operands])]
  | indexAddr t x i =>
   have h := hb x (by simp [Op.operands])
   simp only [zc, he x (by simp [Op.operands]), he i (by simp [Op.operands]), wY h]
  | index t x i => simp only [zc, he x (by simp [Op.operands]), he i (by simp [Op.operands])]
  | extract x i => simp only [zc, he x (by simp [Op.operands])]
  | call c =>
   obtain ⟨cal, args, ts⟩ := c
   cases cal with
   | builtin b =>
    have hin : ∀ x ∈ args.toList, x ∈ (Op.call ⟨.builtin b, args, ts⟩).operands := fun x hx => by simpa [Op.operands, Call.operands] using hx
    simp only [zc, hm _ hin]
    rw [sV]
    intro x hx k hk
    obtain ⟨y, hy, rfl⟩ := List.mem_map.1 hx
    exact hb y (hin y hy) k hk
   | _ => rfl
  | _ => rfl
 unfold ZM
 rw [hr, hg]
end
def SU : Option Nat → Nat → Nat
 | none, n => n
 | some m, n => bif Nat.ble m n then m else n
theorem VG (m n : Nat) : SU (some m) n = if m ≤ n then m else n := by
 show (bif Nat.ble m n then m else n) = _
 simp
theorem SH {m : Option Nat} {n : Nat} : SU m n ≤ n := by
 cases m with
 | none => exact Nat.le_refl _
 | some m => rw [VG]; split <;> omega
theorem sG {m n : Nat} : SU (some m) n ≤ m := by rw [VG]; split <;> omega
theorem SA {m : Option Nat} {n n' : Nat} (h : n ≤ n') : SU m n ≤ SU m n' := by
 cases m with
 | none => exact h
 | some m => rw [VG, VG]; split <;> split <;> omega
structure Zq (m : Option Nat) (d : Option Tmp) (σ σ' : zP) : Prop where
 n : σ'.n = σ.n
 nb : σ.nb ≤ σ'.nb
 bl : ∀ k, k < SU m σ.nb → σ'.bl k = σ.bl k
 tm : ∀ t, d ≠ some t → σ'.tm t = σ.tm t
theorem Zq.refl {m : Option Nat} (d : Option Tmp) (σ : zP) : Zq m d σ σ := ⟨rfl, Nat.le_refl _, fun _ _ => rfl, fun _ _ => rfl⟩
theorem Zq.put {m : Option Nat} {σ σ' : zP} (h : Zq m none σ σ') (d : Option Tmp) (x : AV) : Zq m d σ (σ'.put d x) := by
 cases d with
 | none => exact h
 | some d => exact ⟨h.n, h.nb, h.bl, fun t ht => (zp _ _ fun e => ht (by rw [e])).trans (h.tm t (by simp))⟩
theorem Zq.add {m : Option Nat} (σ : zP) (B : OB) : Zq m none σ (σ.add B) :=
 ⟨rfl, Nat.le_succ _, fun _ hk => zp _ _ (Nat.ne_of_lt (Nat.lt_of_lt_of_le hk SH)), fun _ _ => rfl⟩
theorem Yw (σ : zP) (d : Option Tmp) (x : AV) : (σ.put d x).nb = σ.nb := by cases d <;> rfl
theorem Yn (σ : zP) (d : Option Tmp) (x : AV) : (σ.put d x).bl = σ.bl := by cases d <;> rfl
theorem yI (σ : zP) (d : Option Tmp) (x : AV) (B : OB) : (σ.put d x).add B = (σ.add B).put d x := by cases d <;> rfl
theorem put_comm {σ : zP} {d d' : Option Tmp} {x y : AV} (h : ∀ t, d = some t → d' ≠ some t) : (σ.put d x).put d' y = (σ.put d' y).put d x := by
 cases d with
 | none => rfl
 | some d => cases d' with
  | none => rfl
  | some d' =>
   simp only [zP.put, zP.mk.injEq, true_and, and_true]
   funext t
   by_cases h1 : t = d'
   ·subst h1
    rw [upd_same, zp _ _ (fun e => h d rfl (by rw [e])), upd_same]
   ·rw [zp _ _ h1]
    by_cases h2 : t = d
    ·subst h2; rw [upd_same, upd_same]
    ·rw [zp _ _ h2, zp _ _ h2, zp _ _ h1]
theorem Zq.ev {m : Option Nat} {σ σ' : zP} {d : Option Tmp} (h : Zq m d σ σ') {x : Operand} (hx : ∀ t, x = .tmp t → d ≠ some t) : σ'.ev x = σ.ev x := by
 cases x with
 | tmp t => simp only [zP.ev, h.n, h.tm t (hx t rfl)]
 | _ => rfl
theorem su {σ : zP} {d : Option Tmp} {v : AV} {x : Operand} (hx : ∀ t, x = .tmp t → d ≠ some t) : (σ.put d v).ev x = σ.ev x := ((Zq.refl (m := none) none σ).put d v).ev hx
def VL : Option Nat → AV → Bool
 | some m, .ns k _ _ => Nat.ble m k
 | _, _ => false
def y7 (P : Program) (G : Cx) (σ : zP) (o : Oper) (f : FuncId) (xs : List AV) (k : zP → Prop) : Prop :=
 match G.own f with
 | some _ => ZU o
 | none =>
  match Ya P G f (xs.map (lend σ.bl)) o.type with
  | true => yj P G none f (xs.map (lend σ.bl)) o.type fun r => k (σ.put o.dst r)
  | false => ZU o
def XE (P : Program) (G : Cx) (m : Option Nat) (σ : zP) (o : Oper) (k : zP → Prop) : Prop :=
 match o.op with
 | .alloc elem =>
  match ym P σ elem with
  | some (σ', r) => k (σ'.put o.dst r)
  | none => ZU o
 | .box t x =>
  match Y6 σ t (σ.sv x) with
  | some (σ', r) => Za (σ.ev x).gprop (k (σ'.put o.dst r))
  | none => ZU o
 | .store _ _ _ => ZU o
 | .buildSlice t len parts =>
  if ((parts.toList.map fun p => σ.sv p.2).any AV.hasOwn || XK (parts.toList.map (·.2))) = true then ZU o
  else
   match zd P σ t len (parts.toList.map (·.1)) (parts.toList.map fun p => σ.sv p.2) with
   | some (σ', r) => Za (z8 σ (parts.toList.map (·.2))) (k (σ'.put o.dst r))
   | none => ZU o
 | .makeSlice t l c =>
  match Zo P σ t (σ.sv l) (σ.sv c) with
  | some (ps, σ', r) => Za ((σ.ev l).gprop ++ (σ.ev c).gprop ++ ps) (k (σ'.put o.dst r))
  | none => ZU o
 | .call { callee := .value f, args, .. } =>
  match σ.sv f with
  | .fn (.func fid) nf first nc cap =>
   Za ((σ.ev f).gprop ++ z8 σ args.toList) <|
    if (ZK nf first (args.toList.map σ.sv) nc cap).any AV.hasOwn then y7 P G σ o fid (ZK nf first (args.toList.map σ.sv) nc cap) k
    else
     match yY G σ fid (ZK nf first (args.toList.map σ.sv) nc cap) with
     | some (ps, σ', r) => Za ps (k (σ'.put o.dst r))
     | none => YG P G none fid (ZK nf first (args.toList.map σ.sv) nc cap) o.type fun r => k (σ.put o.dst r)
  | _ => ZU o
 | .call { callee := .builtin .append, args, argTypes } =>
  match args.toList, argTypes.toList with
  | [s, x], [t, t'] =>
   if t = t' then
    if ((σ.sv s).hasOwn && !VL m (σ.sv s)) = true then ZU o
    else
     match ZI P σ t (σ.sv s) (σ.sv x) with
     | some (ps, σ', r) => Za ((σ.ev s).gprop ++ (σ.ev x).gprop ++ ps) (k (σ'.put o.dst r))
     | none => ZU o
   else ZU o
  | _, _ => ZU o
 | op =>
  match ZM P G.objs σ.bl σ.ev op with
  | some (ps, r) => Za ps (k (σ.put o.dst r))
  | none => ZU o
def y9 (P : Program) (G : Cx) (m : Option Nat) (ops : List Oper) (o : Oper) (σ : zP) (k : zP → Prop) : Prop :=
 match o.guard with
 | none => XE P G m σ o k
 | some (j, want) =>
  match ZH ops σ j want with
  | some g =>
   match G.conc && !g with
   | true => k (σ.put o.dst (.gd false (w9 P o.type)))
   | false => VX P G g σ o k
  | none => ZU o
end Go.Sx

namespace Go.Sx
open Go Go.RowKit
section
variable {P : Program} {G : Cx} {m : Option Nat} {ops : List Oper}
theorem W4 {σ σ' : zP} {e : TypeId} {r : AV} (h : ym P σ e = some (σ', r)) : Zq m none σ σ' ∧ ∀ (d : Option Tmp) (x : AV), ym P (σ.put d x) e = some (σ'.put d x, r) := by
 unfold ym at h ⊢
 repeat' split at h
 all_goals first | cases h | skip
 ·rename_i hc
  refine ⟨Zq.add _ _, fun d x => ?_⟩
  simp only [yI, Yw, if_pos hc]
 ·rename_i hn hc
  refine ⟨Zq.add _ _, fun d x => ?_⟩
  simp only [yI, Yw, if_neg hn, if_pos hc]
 ·rename_i hc
  refine ⟨Zq.add _ _, fun d x => ?_⟩
  simp only [yI, Yw, if_pos hc]
theorem ub {σ σ' : zP} {t : TypeId} {v r : AV} (h : Y6 σ t v = some (σ', r)) : Zq m none σ σ' ∧ ∀ (d : Option Tmp) (x : AV), Y6 (σ.put d x) t v = some (σ'.put d x, r) := by
 unfold Y6 at h ⊢
 split at h
 ·rename_i n cs hc
  cases h
  exact ⟨Zq.add _ _, fun d x => by simp only [Yn, Yw, yI, hc]⟩
 ·cases h
theorem Wb {σ σ' : zP} {t : TypeId} {n : Nat} {idx : List Nat} {xs : List AV} {r : AV} (h : zd P σ t n idx xs = some (σ', r)) :
  Zq m none σ σ' ∧ ∀ (d : Option Tmp) (x : AV), zd P (σ.put d x) t n idx xs = some (σ'.put d x, r) := by
 obtain ⟨rfl, h2⟩ := Zd h
 exact ⟨Zq.refl _ _, fun d x => h2 _⟩
theorem v8 {σ σ' : zP} {t : TypeId} {l c r : AV} {ps : List zO} (h : Zo P σ t l c = some (ps, σ', r)) :
  Zq m none σ σ' ∧ ∀ (d : Option Tmp) (x : AV), Zo P (σ.put d x) t l c = some (ps, σ'.put d x, r) := by
 unfold Zo at h ⊢
 repeat' split at h
 all_goals first | cases h | skip
 rename_i hc
 refine ⟨Zq.add _ _, fun d x => ?_⟩
 simp only [yI, Yw, if_pos hc]
theorem uK {G : Cx} {σ σ' : zP} {f : FuncId} {xs : List AV} {r : AV} {ps : List zO} (h : yY G σ f xs = some (ps, σ', r)) :
  Zq m none σ σ' ∧ ∀ d x, yY G (σ.put d x) f xs = some (ps, σ'.put d x, r) := by
 unfold yY at h ⊢
 split at h
 ·rename_i hf
  cases h
  exact ⟨Zq.add _ _, fun d x => by simp only [yI, Yw]⟩
 ·cases h
theorem uB {G : Cx} {σ : zP} {d : Option Tmp} {x : AV} {f : FuncId} {xs : List AV} (h : yY G (σ.put d x) f xs = none) : yY G σ f xs = none := by
 unfold yY at h ⊢
 grind
theorem ta {m : Option Nat} {x : AV} (h : ¬ ((x.hasOwn && !VL m x) = true)) : x.hasOwn = false ∨ VL m x = true := by
 grind
theorem Y5 {σ σ' : zP} {t : TypeId} {s v r : AV} {ps : List zO} (hs : s.hasOwn = false ∨ VL m s = true) (h : ZI P σ t s v = some (ps, σ', r)) :
  Zq m none σ σ' ∧ ∀ (d : Option Tmp) (x : AV), ZI P (σ.put d x) t s v = some (ps, σ'.put d x, r) := by
 unfold ZI at h ⊢
 repeat' split at h
 all_goals first | cases h | skip
 ·refine ⟨Zq.add _ _, fun d x => ?_⟩
  simp only [yI, Yw, Yn]
  simp_all
 ·refine ⟨⟨rfl, Nat.le_refl _, fun k' _ => rfl, fun _ _ => rfl⟩, fun d x => ?_⟩
  simp only [Yn]
  simp_all
 ·refine ⟨Zq.add _ _, fun d x => ?_⟩
  simp only [yI, Yw, Yn]
  simp_all
 ·rename_i k n _ _ _ _ _ _ hcc
  have hm : ∀ k', k' < SU m σ.nb → k' ≠ k := by
   rcases hs with hs | hs
   ·cases hs
   ·cases m with
    | none => cases hs
    | some m' =>
     have h1 : m' ≤ k := Nat.le_of_ble_eq_true hs
     intro k' hk'
     have := sG (m := m') (n := σ.nb)
     omega
  refine ⟨⟨rfl, Nat.le_succ _, fun k' hk' => ?_, fun _ _ => rfl⟩, fun d x => ?_⟩
  ·show upd (upd σ.bl k .dead) σ.nb _ k' = _
   rw [zp _ _ (Nat.ne_of_lt (Nat.lt_of_lt_of_le hk' SH)), zp _ _ (hm k' hk')]
  ·simp only [Yw, Yn]
   cases d <;> simp_all [zP.put]
def old (σ : zP) : Option Tmp → AV
 | some t => σ.tm t
 | none => .junk
theorem tj (σ : zP) (d : Option Tmp) (x : AV) : (σ.put d x).put d (old σ d) = σ := by
 cases d with
 | none => rfl
 | some d =>
  obtain ⟨n, tm, nb, bl⟩ := σ
  simp only [zP.put, old, zP.mk.injEq, true_and, and_true]
  funext t
  by_cases h : t = d
  ·subst h; rw [upd_same]
  ·rw [zp _ _ h, zp _ _ h]
theorem rY {f : zP → Option (zP × AV)} (hf : ∀ σ σ' r, f σ = some (σ', r) → Zq m none σ σ' ∧ ∀ d x, f (σ.put d x) = some (σ'.put d x, r)) {σ σ1 : zP} {d : Option Tmp} {x r : AV}
  (h : f (σ.put d x) = some (σ1, r)) : ∃ σ', f σ = some (σ', r) ∧ Zq m none σ σ' ∧ σ1 = σ'.put d x := by
 obtain ⟨h1, h2⟩ := hf _ _ _ h
 have h3 := h2 d (old σ d)
 rw [tj] at h3
 grind
theorem rZ {f : zP → Option (List zO × zP × AV)} (hf : ∀ σ ps σ' r, f σ = some (ps, σ', r) → Zq m none σ σ' ∧ ∀ d x, f (σ.put d x) = some (ps, σ'.put d x, r)) {σ σ1 : zP} {d : Option Tmp} {x r : AV} {ps : List zO}
  (h : f (σ.put d x) = some (ps, σ1, r)) : ∃ σ', f σ = some (ps, σ', r) ∧ Zq m none σ σ' ∧ σ1 = σ'.put d x := by
 obtain ⟨h1, h2⟩ := hf _ _ _ _ h
 have h3 := h2 d (old σ d)
 rw [tj] at h3
 grind
theorem ZW {σ σ' : zP} {d d' : Option Tmp} {x y : AV} {K : zP → Prop} (h : Zq m none σ σ') (hd : ∀ t, d = some t → d' ≠ some t) (hK : K ((σ'.put d x).put d' y)) :
  Zq m d' σ (σ'.put d' y) ∧ K ((σ'.put d' y).put d x) := ⟨h.put d' y, by rw [put_comm hd] at hK; exact hK⟩
theorem Tm {σ : zP} {d : Option Tmp} {x : AV} {j : Nat} {want : Bool} (h : ∀ t, d = some t → (ops[j]?).bind (·.dst) ≠ some t) : ZH ops (σ.put d x) j want = ZH ops σ j want := by
 unfold ZH
 cases ho : ops[j]? with
 | none => rfl
 | some o =>
  simp only
  cases hd : o.dst with
  | none => rfl
  | some t =>
   simp only
   cases d with
   | none => rfl
   | some d =>
    have hne : t ≠ d := fun e => h d rfl (by rw [ho, Option.bind_some, hd, e])
    simp only [zP.put, zp _ _ hne]
theorem X2 {ex : TypeId → (AV → Prop) → Prop} (hex : ∀ t k k', (∀ r, k r → k' r) → ex t k → ex t k') : ∀ (ts : List TypeId) (k k' : List AV → Prop), (∀ r, k r → k' r) → Y8 ex ts k → Y8 ex ts k'
 | [], _, _, h, hk => h _ hk
 | _ :: ts, _, _, h, hk => hex _ _ _ (fun _ hv => X2 hex ts _ _ (fun _ hr => h _ hr) hv) hk
theorem vn : ∀ (n : Nat) (t : TypeId) (k k' : AV → Prop), (∀ r, k r → k' r) → ww P n t k → ww P n t k'
 | 0, _, _, _, h, ⟨r, hr⟩ => ⟨r, h _ hr⟩
 | n + 1, t, k, k', h, hk => by
  unfold ww at hk ⊢
  split at hk
  ·grind
  ·grind
  ·grind
  ·grind
  ·exact X2 (vn n) _ _ _ (fun r hr => h _ hr) hk
  grind
theorem zk {ps : List zO} {k k' : Prop} (h : k → k') (hp : Za ps k) : Za ps k' := by
 rw [ze] at hp ⊢
 simp_all
theorem yt {g : Bool} {ps : List zO} {k k' : Prop} (h : k → k') (hp : u9 g ps k) : u9 g ps k' := by
 rw [ZQ] at hp ⊢
 simp_all
theorem w7 {o : Oper} {d : Option Tmp} (h : ∀ t, d = some t → t ∉ o.looksAt ops.toArray) : ∀ x ∈ o.op.operands, ∀ t, x = .tmp t → d ≠ some t := fun x hx t hxt hd =>
 h t hd (List.mem_append_left _ (List.mem_filterMap.2 ⟨x, Array.mem_toList_iff.2 hx, by rw [hxt]⟩))
theorem X9 {o : Oper} {d : Option Tmp} {j : Nat} {want : Bool} (h : ∀ t, d = some t → t ∉ o.looksAt ops.toArray) (hg : o.guard = some (j, want)) :
  ∀ t, d = some t → (ops[j]?).bind (·.dst) ≠ some t := fun t hd he =>
 h t hd (List.mem_append_right _ (by rw [hg]; simp only [List.getElem?_toArray]; rw [he]; simp))
theorem WW {g : Option Bool} {ps : List zO} {k k' : Prop} (h : k → k') (hp : SG g ps k) : SG g ps k' := by
 cases g with
 | none => exact zk h hp
 | some g => exact yt h hp
theorem Ze {P : Program} {G : Cx} {g : Option Bool} {f : FuncId} {xs : List AV} {t : TypeId} {K K' : AV → Prop} (h : ∀ r, K r → K' r) (hk : yj P G g f xs t K) : yj P G g f xs t K' := by
 unfold yj at hk ⊢
 split at hk
 ·exact WW (h _) hk
 ·exact vn 3 _ _ _ (fun r hr => ⟨hr.1, h r hr.2⟩) hk
theorem YL {P : Program} {G : Cx} {g : Option Bool} {f : FuncId} {xs : List AV} {t : TypeId} {K K' : AV → Prop} (h : ∀ r, K r → K' r) (hk : YG P G g f xs t K) : YG P G g f xs t K' := by
 unfold YG at hk ⊢
 split at hk
 ·grind
 ·exact Ze h hk
theorem ZD {σ σ' : zP} {l : List Operand} (h : ∀ x ∈ l, σ'.ev x = σ.ev x) : z8 σ' l = z8 σ l := by
 unfold z8
 rw [List.flatMap_def, List.flatMap_def]
 congr 1
 simp_all
theorem ZE {σ σ' : zP} {x : Operand} (h : σ'.ev x = σ.ev x) : σ'.sv x = σ.sv x := by unfold zP.sv; rw [h]
theorem u5 {σ : zP} {o : Oper} {d : Option Tmp} {x : AV} {f : FuncId} {xs : List AV} {K : zP → Prop} (h2 : ∀ t, d = some t → o.dst ≠ some t) (h : y7 P G (σ.put d x) o f xs K) :
  y7 P G σ o f xs fun σ' => Zq m o.dst σ σ' ∧ K (σ'.put d x) := by
 unfold y7 at h ⊢
 simp only [Yn, Yw, yI] at h
 split at h
 ·exact h.elim
 ·split at h
  ·exact Ze (fun r hk => ZW (Zq.refl none σ) h2 hk) h
  omega
theorem Vr {σ : zP} {o : Oper} {f : FuncId} {xs : List AV} {K K' : zP → Prop} (hk : ∀ σ, K σ → K' σ) (h : y7 P G σ o f xs K) : y7 P G σ o f xs K' := by
 unfold y7 at h ⊢
 split at h
 ·exact h.elim
 ·split at h
  ·exact Ze (fun r h => hk _ h) h
  omega
theorem sj {σ : zP} {o : Oper} {d : Option Tmp} {x : AV} {K : zP → Prop} (h1 : ∀ x ∈ o.op.operands, ∀ t, x = .tmp t → d ≠ some t) (h2 : ∀ t, d = some t → o.dst ≠ some t)
  (h : XE P G m (σ.put d x) o K) : XE P G m σ o fun σ' => Zq m o.dst σ σ' ∧ K (σ'.put d x) := by
 have hev : ∀ y ∈ o.op.operands, (σ.put d x).ev y = σ.ev y := fun y hy => su (h1 y hy)
 have hsv : ∀ y ∈ o.op.operands, (σ.put d x).sv y = σ.sv y := fun y hy => ZE (hev y hy)
 have gr : ∀ r, K ((σ.put d x).put o.dst r) → Zq m o.dst σ (σ.put o.dst r) ∧ K ((σ.put o.dst r).put d x) := fun r hk => ZW (Zq.refl none σ) h2 hk
 unfold XE at h ⊢
 split at h
 ·rename_i e ho
  simp only
  split at h
  ·rename_i σ1 r he
   obtain ⟨σ', g1, g2, rfl⟩ := rY (f := fun σ => ym P σ e) (fun _ _ _ h => W4 h) he
   simp only [g1]
   exact ZW g2 h2 h
  ·exact h.elim
 ·rename_i t y ho
  have e1 := hev y (by rw [ho]; simp [Op.operands])
  have e2 := hsv y (by rw [ho]; simp [Op.operands])
  simp only [e1, e2] at h
  simp only
  split at h
  ·rename_i σ1 r he
   obtain ⟨σ', g1, g2, rfl⟩ := rY (f := fun s => Y6 s t (σ.sv y)) (fun _ _ _ h => ub h) he
   simp only [g1]
   exact zk (ZW g2 h2) h
  ·exact h.elim
 ·exact h.elim
 ·rename_i t n parts ho
  have hin : ∀ p ∈ parts.toList, p.2 ∈ o.op.operands := fun p hp => by rw [ho]; simp only [Op.operands, List.mem_toArray, List.mem_map]; exact ⟨p, hp, rfl⟩
  have e1 : (parts.toList.map fun p => (σ.put d x).sv p.2) = parts.toList.map fun p => σ.sv p.2 := List.map_congr_left fun p hp => hsv _ (hin p hp)
  have e2 : z8 (σ.put d x) (parts.toList.map (·.2)) = z8 σ (parts.toList.map (·.2)) := ZD fun y hy => by
   obtain ⟨p, hp, rfl⟩ := List.mem_map.1 hy
   exact hev _ (hin p hp)
  simp only [e1, e2] at h
  simp only
  split at h
  ·exact h.elim
  ·rename_i hno
   rw [if_neg hno]
   split at h
   ·rename_i σ1 r he
    obtain ⟨σ', g1, g2, rfl⟩ := rY (f := fun s => zd P s t n (parts.toList.map fun p : Nat × Operand => p.1) (parts.toList.map fun p : Nat × Operand => σ.sv p.2)) (fun _ _ _ h => Wb h) he
    simp only [g1]
    exact zk (ZW g2 h2) h
   ·exact h.elim
 ·rename_i t l c ho
  have e1 := hev l (by rw [ho]; simp [Op.operands])
  have e2 := hev c (by rw [ho]; simp [Op.operands])
  simp only [e1, e2, ZE e1, ZE e2] at h
  simp only
  split at h
  ·rename_i ps σ1 r he
   obtain ⟨σ', g1, g2, rfl⟩ := rZ (f := fun s => Zo P s t (σ.sv l) (σ.sv c)) (fun _ _ _ _ h => v8 h) he
   simp only [g1]
   exact zk (ZW g2 h2) h
  ·exact h.elim
 ·rename_i f args ts ho
  have e1 := hev f (by rw [ho]; simp [Op.operands, Call.operands])
  have hin : ∀ y ∈ args.toList, y ∈ o.op.operands := fun y hy => by rw [ho]; simp only [Op.operands, Call.operands, Array.mem_append]; exact .inr (Array.mem_toList_iff.1 hy)
  have e2 : args.toList.map (σ.put d x).sv = args.toList.map σ.sv := List.map_congr_left fun y hy => hsv _ (hin y hy)
  have e3 : z8 (σ.put d x) args.toList = z8 σ args.toList := ZD fun y hy => hev _ (hin y hy)
  simp only [e1, e2, e3, ZE e1] at h
  simp only
  split at h
  ·refine zk (fun h => ?_) h
   split at h
   ·rename_i hown
    rw [if_pos hown]
    exact u5 h2 h
   ·rename_i hno
    rw [if_neg hno]
    split at h
    ·rename_i ps σ1 r he
     obtain ⟨σ', g1, g2, rfl⟩ := rZ (f := fun u => yY G u _ _) (fun _ _ _ _ h => uK h) he
     simp only [g1]
     exact zk (ZW g2 h2) h
    ·rename_i he
     rw [uB he]
     exact YL gr h
  ·exact h.elim
 ·rename_i args ts ho
  have hin : ∀ y ∈ args.toList, y ∈ o.op.operands := fun y hy => by rw [ho]; simp only [Op.operands, Call.operands, Array.mem_append]; exact .inr (Array.mem_toList_iff.1 hy)
  simp only
  split at h
  ·rename_i s y t t' ha ht
   have e1 := hev s (hin s (by rw [ha]; simp))
   have e2 := hev y (hin y (by rw [ha]; simp))
   simp only [e1, e2, ZE e1, ZE e2] at h
   split at h
   ·rename_i htt
    rw [if_pos htt]
    split at h
    ·exact h.elim
    ·rename_i hno
     rw [if_neg hno]
     split at h
     ·rename_i ps σ1 r he
      obtain ⟨σ', g1, g2, rfl⟩ := rZ (f := fun u => ZI P u t (σ.sv s) (σ.sv y)) (fun _ _ _ _ h => Y5 (ta hno) h) he
      simp only [g1]
      exact zk (ZW g2 h2) h
     ·rename_i he0
      have e0 : ZI P σ t (σ.sv s) (σ.sv y) = none := by
       cases h0 : ZI P σ t (σ.sv s) (σ.sv y) with
       | none => rfl
       | some q =>
        obtain ⟨ps, σ1, r⟩ := q
        rw [(Y5 (ta hno) h0).2 d x] at he0
        cases he0
      exact h.elim
   ·exact h.elim
  ·exact h.elim
 ·have e : ZM P G.objs (σ.put d x).bl (σ.put d x).ev o.op = ZM P G.objs σ.bl σ.ev o.op := Xe hev fun _ _ _ _ => by rw [Yn]
  rw [e] at h
  split at h
  ·rename_i ps r he
   exact zk (gr r) h
  ·exact h.elim
theorem ru {g : Bool} {σ : zP} {o : Oper} {d : Option Tmp} {x : AV} {K : zP → Prop} (h1 : ∀ x ∈ o.op.operands, ∀ t, x = .tmp t → d ≠ some t) (h2 : ∀ t, d = some t → o.dst ≠ some t)
  (h : VX P G g (σ.put d x) o K) : VX P G g σ o fun σ' => Zq m o.dst σ σ' ∧ K (σ'.put d x) := by
 have hev : ∀ y ∈ o.op.operands, (σ.put d x).ev y = σ.ev y := fun y hy => su (h1 y hy)
 have hsv : ∀ y ∈ o.op.operands, (σ.put d x).sv y = σ.sv y := fun y hy => ZE (hev y hy)
 have gr : ∀ r, K ((σ.put d x).put o.dst r) → Zq m o.dst σ (σ.put o.dst r) ∧ K ((σ.put o.dst r).put d x) := fun r hk => ZW (Zq.refl none σ) h2 hk
 unfold VX at h ⊢
 split at h
 ·rename_i f args ts ho
  have e1 := hev f (by rw [ho]; simp [Op.operands, Call.operands])
  have hin : ∀ y ∈ args.toList, y ∈ o.op.operands := fun y hy => by rw [ho]; simp only [Op.operands, Call.operands, Array.mem_append]; exact .inr (Array.mem_toList_iff.1 hy)
  have e2 : args.toList.map (σ.put d x).sv = args.toList.map σ.sv := List.map_congr_left fun y hy => hsv _ (hin y hy)
  have e3 : z8 (σ.put d x) args.toList = z8 σ args.toList := ZD fun y hy => hev _ (hin y hy)
  simp only [e1, e2, e3, ZE e1, Yn] at h
  simp only
  split at h
  ·refine yt (fun h => ?_) h
   split at h
   ·rename_i hno
    rw [if_pos hno]
    split at h
    ·split at h
     ·exact gr _ h
     ·exact h.elim
    ·split at h
     ·rename_i hs
      rw [if_pos hs]
      exact Ze (fun r hr => gr _ hr) h
     ·exact h.elim
   ·rename_i hno
    rw [if_neg hno]
    exact YL (fun r hr => gr _ hr) h
  ·exact h.elim
 ·rename_i tb lb parts ho
  have hin : ∀ p ∈ parts.toList, p.2 ∈ o.op.operands := fun p hp => by rw [ho]; simp only [Op.operands, List.mem_toArray, List.mem_map]; exact ⟨p, hp, rfl⟩
  have e1 : (parts.toList.map fun p => (σ.put d x).sv p.2) = parts.toList.map fun p => σ.sv p.2 := List.map_congr_left fun p hp => hsv _ (hin p hp)
  have e2 : z8 (σ.put d x) (parts.toList.map (·.2)) = z8 σ (parts.toList.map (·.2)) := ZD fun y hy => by
   obtain ⟨p, hp, rfl⟩ := List.mem_map.1 hy
   exact hev _ (hin p hp)
  rw [e1, e2] at h
  split at h
  ·exact h.elim
  ·rename_i hno
   rw [if_neg hno]
   split at h
   ·rename_i σ1 r he
    rw [(Zd he).2 σ]
    exact yt (gr _) h
   ·exact h.elim
 ·have e : ZM P G.objs (σ.put d x).bl (σ.put d x).ev o.op = ZM P G.objs σ.bl σ.ev o.op := Xe hev fun _ _ _ _ => by rw [Yn]
  rw [e] at h
  split at h
  ·exact yt (gr _) h
  ·exact h.elim
theorem Tc {σ : zP} {o : Oper} {d : Option Tmp} {x : AV} {K : zP → Prop} (h1 : ∀ t, d = some t → t ∉ o.looksAt ops.toArray) (h2 : ∀ t, d = some t → o.dst ≠ some t)
  (h : y9 P G m ops o (σ.put d x) K) : y9 P G m ops o σ fun σ' => Zq m o.dst σ σ' ∧ K (σ'.put d x) := by
 unfold y9 at h ⊢
 split at h
 ·exact sj (w7 h1) h2 h
 ·rename_i j want hg
  rw [Tm (X9 h1 hg)] at h
  split at h
  ·rename_i g _
   cases hc : G.conc && !g with
   | true =>
    rw [hc] at h
    exact ZW (Zq.refl none σ) h2 h
   | false =>
    rw [hc] at h
    exact ru (w7 h1) h2 h
  omega
theorem Tt {σ : zP} {o : Oper} {K K' : zP → Prop} (hk : ∀ σ, K σ → K' σ) (h : XE P G m σ o K) : XE P G m σ o K' := by
 unfold XE at h ⊢
 split at h
 ·grind
 ·split at h
  ·exact zk (hk _) h
  ·exact h
 ·exact h
 ·split at h
  ·exact h.elim
  ·rename_i hno
   rw [if_neg hno]
   split at h
   ·exact zk (hk _) h
   ·exact h
 ·split at h
  ·exact zk (hk _) h
  ·exact h
 ·split at h
  ·refine zk (fun h => ?_) h
   split at h
   ·rename_i hown
    rw [if_pos hown]
    exact Vr hk h
   ·rename_i hno
    rw [if_neg hno]
    split at h
    ·exact zk (hk _) h
    ·exact YL (fun r hr => hk _ hr) h
  ·exact h
 ·split at h
  ·split at h
   ·rename_i htt
    rw [if_pos htt]
    split at h
    ·exact h.elim
    ·rename_i hno
     rw [if_neg hno]
     split at h
     ·exact zk (hk _) h
     ·exact h
   simp_all
  ·exact h
 ·split at h
  ·exact zk (hk _) h
  ·exact h
theorem XS {g : Bool} {σ : zP} {o : Oper} {K K' : zP → Prop} (hk : ∀ σ, K σ → K' σ) (h : VX P G g σ o K) : VX P G g σ o K' := by
 unfold VX at h ⊢
 split at h
 ·split at h
  ·refine yt (fun h => ?_) h
   split at h
   ·rename_i hno
    rw [if_pos hno]
    split at h
    ·grind
    ·split at h
     ·rename_i hs
      rw [if_pos hs]
      exact Ze (fun r hr => hk _ hr) h
     simp_all
   ·rename_i hno
    rw [if_neg hno]
    exact YL (fun r hr => hk _ hr) h
  ·exact h
 ·split at h
  ·exact h.elim
  ·rename_i hno
   rw [if_neg hno]
   split at h
   ·exact yt (hk _) h
   ·exact h
 ·split at h
  ·exact yt (hk _) h
  ·exact h
theorem x8 {σ : zP} {o : Oper} {K K' : zP → Prop} (hk : ∀ σ, K σ → K' σ) (h : y9 P G m ops o σ K) : y9 P G m ops o σ K' := by
 unfold y9 at h ⊢
 split at h
 ·exact Tt hk h
 ·split at h
  ·rename_i g _
   cases hc : G.conc && !g with
   | true => simp_all
   | false => rw [hc] at h; exact XS hk h
  ·exact h
theorem Wc {σ : zP} {xs : List AV} (h : ¬ (xs.any AV.hasOwn) = true) : ye σ xs = some (σ, xs) := by unfold ye; rw [if_neg h]
theorem s6 {σ : zP} {o : Oper} {K : zP → Prop} (h : XE P G m σ o K) : qS P G σ o K := by
 unfold XE at h
 unfold qS
 split at h
 ·grind
 ·grind
 ·exact h.elim
 ·rename_i ho
  simp only [ho]
  split at h
  ·exact h.elim
  ·rename_i hno
   rw [Vl hno, Wc fun h => hno (by rw [h]; rfl)]
   exact h
 ·grind
 ·rename_i ho
  simp only [ho]
  split at h
  ·rename_i hf
   simp only [hf]
   refine zk (fun h => ?_) h
   split at h
   ·rename_i hown
    unfold Y2
    rw [if_pos hown]
    unfold y7 at h
    split at h
    ·exact h.elim
    ·rename_i ho0
     rw [ho0]
     simp only
     split at h
     ·simp_all
     ·exact h.elim
   ·rename_i hno
    unfold Y2
    rw [if_neg hno]
    split at h
    ·simp_all
    rename_i he
    rw [he]
    unfold YG at h
    split at h
    ·exact h.elim
    ·exact h
  ·exact h.elim
 ·rename_i ho
  simp only [ho]
  split at h
  ·rename_i ha ht
   simp only [ha, ht]
   split at h
   ·split at h
    ·exact h.elim
    grind
   ·exact h.elim
  simp_all
 grind
theorem TP {g : Bool} {σ : zP} {o : Oper} {K : zP → Prop} (h : VX P G g σ o K) : VS P G g σ o K := by
 unfold VS
 split
 ·rename_i ho
  split
  ·rename_i hf
   split
   ·rename_i hi
    unfold VX at h
    simp only [ho, hf, ZQ] at h
    obtain ⟨h1, h2⟩ := h
    unfold YG at h2
    rw [hi] at h2
    cases g with
    | true => split at h2 <;> exact h2.elim
    | false => split at h2 <;> exact h2
   ·exact h
  ·rename_i hf
   unfold VX at h
   simp only [ho, hf] at h
   exact h.elim
  ·exact h
 ·exact h
theorem vQ {σ : zP} {o : Oper} {K : zP → Prop} (h : y9 P G m ops o σ K) : W2 P G ops o σ K := by
 unfold y9 at h
 unfold W2
 cases hg : o.guard with
 | none => rw [hg] at h; exact s6 h
 | some jw =>
  rw [hg] at h
  simp only at h ⊢
  split at h
  ·rename_i g hga
   simp only [hga]
   cases hc : G.conc && !g with
   | true => simp_all
   | false => rw [hc] at h; exact TP h
  simp_all
end
end Go.Sx
