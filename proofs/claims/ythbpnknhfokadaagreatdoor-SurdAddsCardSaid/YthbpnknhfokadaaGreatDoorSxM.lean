/- Regions whose operations come in any order: what only computes or reads may be taken first. -/
import Derived.Test.YthbpnknhfokadaaGreatDoorSxK
set_option linter.unusedSimpArgs false
set_option linter.unusedVariables false
namespace Go.Sx
open Go Go.RowKit
def AV.top : AV → Option Nat
 | .np k _ | .ns k _ _ | .ap k _ _ | .ps k _ => some k
 | _ => none
section
variable {P : Program} {bl bl' : Nat → OB}
theorem T5 {sh : Option Nat} {x : AV} (h : ∀ k, x.top = some k → bl' k = bl k) : Y1 bl' sh x = Y1 bl sh x := by
 cases x <;> simp only [Y1] <;> rw [h _ rfl]
theorem rf {x : AV} (h : ∀ k, x.top = some k → bl' k = bl k) : wd bl' x = wd bl x := by
 cases x <;> simp only [wd] <;> first | rw [h _ rfl] | (split <;> first | rfl | (rename_i e; cases e) | simp_all)
theorem Rv {P : Program} {bl bl' : Nat → OB} {s d : TypeId} {x : AV} (h : ∀ k, x.top = some k → bl' k = bl k) : tL P bl' s d x = tL P bl s d x := by
 have e : Us bl' 1 x = Us bl 1 x := by
  cases x <;> first | rfl | skip
  rename_i k off m
  unfold Us
  simp only [h k rfl]
 unfold tL
 rw [e]
theorem SF {x : AV} {d : Nat} (h : ∀ k, x.top = some k → bl' k = bl k) : x.shift bl' d = x.shift bl d := by
 cases x <;> simp only [AV.shift] <;> rw [h _ rfl]
theorem Vg {t : TypeId} {x ix : AV} (h : ∀ k, x.top = some k → bl' k = bl k) : Yi P bl' t x ix = Yi P bl t x ix := by
 unfold Yi
 split
 ·split
  ·cases x with
   | ns k off len => have e := h k rfl; cases P.info? _ <;> simp only [e]
   | ps k len => have e := h k rfl; cases P.info? _ <;> simp only [e]
   | _ => cases P.info? _ <;> rfl
  ·cases x with
   | ap k i j => have e := h k rfl; cases P.info? _ <;> cases j <;> simp only [e]
   | np k off => have e := h k rfl; cases P.info? _ <;> simp only [e]
   | _ => cases P.info? _ <;> rfl
  ·rfl
 ·rfl
theorem Rz {t : TypeId} {x : AV} {lo hi mx : Option AV} (h : ∀ k, x.top = some k → bl' k = bl k) : w7 P bl' t x lo hi mx = w7 P bl t x lo hi mx := by
 unfold w7
 rcases P.underlying t with _ | u
 ·rfl
 ·cases u with
  | string =>
   grind
  | slice e =>
   cases x with
   | ns k off len =>
    have e := h k rfl
    grind
   | xl => grind
   | _ => rfl
  | _ => rfl
theorem pH {t : TypeId} {x : AV} (h : ∀ k, x.top = some k → bl' k = bl k) : tq P bl' t x = tq P bl t x := by
 unfold tq
 rcases P.underlying t with _ | u
 ·rfl
 ·cases x with
  | ns k off len =>
   have e := h k rfl
   grind
  | v x => grind
  | _ => cases u <;> rfl
theorem Ow {b : Builtin} {ts : List TypeId} {xs : List AV} (h : ∀ x ∈ xs, ∀ k, x.top = some k → bl' k = bl k) : R9 P bl' b ts xs = R9 P bl b ts xs := by
 unfold R9
 split <;> first | rfl | exact pH (h _ (by simp))
theorem sr {x : AV} (h : ∀ k, x.top = some k → bl' k = bl k) : We bl' x = We bl x := by
 unfold We
 cases x with
 | ns k off len => simp only [h k rfl]
 | _ => rfl
theorem Rq {op : BinOp} {t : TypeId} {x y : AV} (h1 : ∀ k, x.top = some k → bl' k = bl k) (h2 : ∀ k, y.top = some k → bl' k = bl k) : ov P bl' op t x y = ov P bl op t x y := by
 unfold ov Tg
 rw [sr h1]
 cases y with
 | np k' o' => simp only [h2 k' rfl]
 | v u =>
  grind
 | _ => rfl
theorem vG {ob : List (Nat × Obj)} {ev ev' : Operand → AV} {o : Op} (he : ∀ x ∈ o.operands, ev' x = ev x) (hb : ∀ x ∈ o.operands, ∀ k, (ev x).strip.top = some k → bl' k = bl k) :
  yh P ob bl' ev' o = yh P ob bl ev o := by
 have hg : ((Ym o).flatMap fun x => (ev' x).gprop) = (Ym o).flatMap fun x => (ev x).gprop := by
  rw [List.flatMap_def, List.flatMap_def]
  congr 1
  refine List.map_congr_left fun x hx => ?_
  rw [he x]
  cases o <;> first | exact Array.mem_toList_iff.1 hx | cases hx
 have hr : Zk P ob bl' ev' (fun x => (ev' x).strip) o = Zk P ob bl ev (fun x => (ev x).strip) o := by
  have hm : ∀ l : List Operand, (∀ x ∈ l, x ∈ o.operands) → l.map (fun x => (ev' x).strip) = l.map fun x => (ev x).strip := fun l hl => List.map_congr_left fun x hx => by rw [he x (hl x hx)]
  have ho : ∀ l : Option Operand, (∀ x, l = some x → x ∈ o.operands) → l.map (fun x => (ev' x).strip) = l.map fun x => (ev x).strip := fun l hl => by
   cases l with
   | none => rfl
   | some x => simp only [Option.map_some, he x (hl x rfl)]
  cases o with
  | move x => simp only [Zk, he x (by simp [Op.operands])]
  | assign x => simp only [Zk, he x (by simp [Op.operands])]
  | pick c a b => simp only [Zk, he c (by simp [Op.operands]), he a (by simp [Op.operands]), he b (by simp [Op.operands])]
  | load t x =>
   have h := hb x (by simp [Op.operands])
   simp only [Zk, he x (by simp [Op.operands]), T5 h]
  | nilCheck x =>
   have h := hb x (by simp [Op.operands])
   simp only [Zk, he x (by simp [Op.operands]), rf h]
  | binOp op t x y t' =>
   have h1 := hb x (by simp [Op.operands])
   have h2 := hb y (by simp [Op.operands])
   simp only [Zk, he x (by simp [Op.operands]), he y (by simp [Op.operands]), Rq h1 h2]
  | build t parts =>
   have : (parts.toList.map fun p => (p.1, (ev' p.2).strip)) = parts.toList.map fun p => (p.1, (ev p.2).strip) := List.map_congr_left fun p hp => by
    rw [he p.2 (by simp only [Op.operands, List.mem_toArray, List.mem_map]; exact ⟨p, hp, rfl⟩)]
   simp only [Zk, this]
  | unOp op t x => simp only [Zk, he x (by simp [Op.operands])]
  | convert s d x =>
   have h := hb x (by simp [Op.operands])
   simp only [Zk, he x (by simp [Op.operands]), Rv h]
  | makeFunc f a b =>
   simp only [Zk, hm a.toList fun x hx => by simp only [Op.operands, Array.mem_append]; exact .inl (Array.mem_toList_iff.1 hx),
    hm b.toList fun x hx => by simp only [Op.operands, Array.mem_append]; exact .inr (Array.mem_toList_iff.1 hx)]
  | slice t x a b c =>
   have h := hb x (by simp [Op.operands])
   simp only [Zk, he x (by simp [Op.operands]), Rz h, ho a fun x hx => by simp [Op.operands, hx], ho b fun x hx => by simp [Op.operands, hx],
    ho c fun x hx => by simp [Op.operands, hx]]
  | fieldAddr t x f =>
   have h := hb x (by simp [Op.operands])
   simp only [Zk, he x (by simp [Op.operands]), SF h]
  | field t x f => simp only [Zk, he x (by simp [Op.operands])]
  | indexAddr t x i =>
   have h := hb x (by simp [Op.operands])
   simp only [Zk, he x (by simp [Op.operands]), he i (by simp [Op.operands]), Vg h]
  | index t x i => simp only [Zk, he x (by simp [Op.operands]), he i (by simp [Op.operands])]
  | extract x i => simp only [Zk, he x (by simp [Op.operands])]
  | call c =>
   obtain ⟨cal, args, ts⟩ := c
   cases cal with
   | builtin b =>
    have hin : ∀ x ∈ args.toList, x ∈ (Op.call ⟨.builtin b, args, ts⟩).operands := fun x hx => by simpa [Op.operands, Call.operands] using hx
    simp only [Zk, hm _ hin]
    rw [Ow]
    intro x hx k hk
    obtain ⟨y, hy, rfl⟩ := List.mem_map.1 hx
    exact hb y (hin y hy) k hk
   | _ => rfl
  | _ => rfl
 unfold yh
 rw [hr, hg]
end
def Ro : Option Nat → Nat → Nat
 | none, n => n
 | some m, n => bif Nat.ble m n then m else n
theorem SX (m n : Nat) : Ro (some m) n = if m ≤ n then m else n := by
 show (bif Nat.ble m n then m else n) = _
 simp
theorem NQ {m : Option Nat} {n : Nat} : Ro m n ≤ n := by
 cases m with
 | none => exact Nat.le_refl _
 | some m => rw [SX]; split <;> omega
theorem NS {m n : Nat} : Ro (some m) n ≤ m := by rw [SX]; split <;> omega
theorem mw {m : Option Nat} {n n' : Nat} (h : n ≤ n') : Ro m n ≤ Ro m n' := by
 cases m with
 | none => exact h
 | some m => rw [SX, SX]; split <;> split <;> omega
structure yO (m : Option Nat) (d : Option Tmp) (σ σ' : zK) : Prop where
 n : σ'.n = σ.n
 nb : σ.nb ≤ σ'.nb
 bl : ∀ k, k < Ro m σ.nb → σ'.bl k = σ.bl k
 tm : ∀ t, d ≠ some t → σ'.tm t = σ.tm t
theorem yO.refl {m : Option Nat} (d : Option Tmp) (σ : zK) : yO m d σ σ := ⟨rfl, Nat.le_refl _, fun _ _ => rfl, fun _ _ => rfl⟩
theorem yO.put {m : Option Nat} {σ σ' : zK} (h : yO m none σ σ') (d : Option Tmp) (x : AV) : yO m d σ (σ'.put d x) := by
 cases d with
 | none => exact h
 | some d => exact ⟨h.n, h.nb, h.bl, fun t ht => (zN _ _ fun e => ht (by rw [e])).trans (h.tm t (by simp))⟩
theorem yO.add {m : Option Nat} (σ : zK) (B : OB) : yO m none σ (σ.add B) :=
 ⟨rfl, Nat.le_succ _, fun _ hk => zN _ _ (Nat.ne_of_lt (Nat.lt_of_lt_of_le hk NQ)), fun _ _ => rfl⟩
theorem Xq (σ : zK) (d : Option Tmp) (x : AV) : (σ.put d x).nb = σ.nb := by cases d <;> rfl
theorem wy (σ : zK) (d : Option Tmp) (x : AV) : (σ.put d x).bl = σ.bl := by cases d <;> rfl
theorem xJ (σ : zK) (d : Option Tmp) (x : AV) (B : OB) : (σ.put d x).add B = (σ.add B).put d x := by cases d <;> rfl
theorem put_comm {σ : zK} {d d' : Option Tmp} {x y : AV} (h : ∀ t, d = some t → d' ≠ some t) : (σ.put d x).put d' y = (σ.put d' y).put d x := by
 cases d with
 | none => rfl
 | some d => cases d' with
  | none => rfl
  | some d' =>
   simp only [zK.put, zK.mk.injEq, true_and, and_true]
   funext t
   by_cases h1 : t = d'
   ·subst h1
    rw [upd_same, zN _ _ (fun e => h d rfl (by rw [e])), upd_same]
   ·rw [zN _ _ h1]
    by_cases h2 : t = d
    ·subst h2; rw [upd_same, upd_same]
    ·rw [zN _ _ h2, zN _ _ h2, zN _ _ h1]
theorem yO.ev {m : Option Nat} {σ σ' : zK} {d : Option Tmp} (h : yO m d σ σ') {x : Operand} (hx : ∀ t, x = .tmp t → d ≠ some t) : σ'.ev x = σ.ev x := by
 cases x with
 | tmp t => simp only [zK.ev, h.n, h.tm t (hx t rfl)]
 | _ => rfl
theorem mm {σ : zK} {d : Option Tmp} {v : AV} {x : Operand} (hx : ∀ t, x = .tmp t → d ≠ some t) : (σ.put d v).ev x = σ.ev x := ((yO.refl (m := none) none σ).put d v).ev hx
def sf : Option Nat → AV → Bool
 | some m, .ns k _ _ => Nat.ble m k
 | _, _ => false
def Xu (P : Program) (G : Cx) (σ : zK) (o : Oper) (f : FuncId) (xs : List AV) (k : zK → Prop) : Prop :=
 match G.own f with
 | some _ => Ze o
 | none =>
  match wP P G f (xs.map (lend σ.bl)) o.type with
  | true => xm P G none f (xs.map (lend σ.bl)) o.type fun r => k (σ.put o.dst r)
  | false => Ze o
def vk (P : Program) (G : Cx) (m : Option Nat) (σ : zK) (o : Oper) (k : zK → Prop) : Prop :=
 match o.op with
 | .alloc elem =>
  match xt P σ elem with
  | some (σ', r) => k (σ'.put o.dst r)
  | none => Ze o
 | .box t x =>
  match wO σ t (σ.sv x) with
  | some (σ', r) => Yo (σ.ev x).gprop (k (σ'.put o.dst r))
  | none => Ze o
 | .store _ _ _ => Ze o
 | .buildSlice t len parts =>
  if ((parts.toList.map fun p => σ.sv p.2).any AV.hasOwn || VX (parts.toList.map (·.2))) = true then Ze o
  else
   match ZM P σ t len (parts.toList.map (·.1)) (parts.toList.map fun p => σ.sv p.2) with
   | some (σ', r) => Yo (Zc σ (parts.toList.map (·.2))) (k (σ'.put o.dst r))
   | none => Ze o
 | .makeSlice t l c =>
  match yq P σ t (σ.sv l) (σ.sv c) with
  | some (ps, σ', r) => Yo ((σ.ev l).gprop ++ (σ.ev c).gprop ++ ps) (k (σ'.put o.dst r))
  | none => Ze o
 | .call { callee := .value f, args, .. } =>
  match σ.sv f with
  | .fn (.func fid) nf first nc cap =>
   Yo ((σ.ev f).gprop ++ Zc σ args.toList) <|
    if (yd nf first (args.toList.map σ.sv) nc cap).any AV.hasOwn then Xu P G σ o fid (yd nf first (args.toList.map σ.sv) nc cap) k
    else
     match YG G σ fid (yd nf first (args.toList.map σ.sv) nc cap) with
     | some (ps, σ', r) => Yo ps (k (σ'.put o.dst r))
     | none => wt P G none fid (yd nf first (args.toList.map σ.sv) nc cap) o.type fun r => k (σ.put o.dst r)
  | _ => Ze o
 | .call { callee := .builtin .append, args, argTypes } =>
  match args.toList, argTypes.toList with
  | [s, x], [t, t'] =>
   if t = t' then
    if ((σ.sv s).hasOwn && !sf m (σ.sv s)) = true then Ze o
    else
     match y7 P σ t (σ.sv s) (σ.sv x) with
     | some (ps, σ', r) => Yo ((σ.ev s).gprop ++ (σ.ev x).gprop ++ ps) (k (σ'.put o.dst r))
     | none => Ze o
   else Ze o
  | _, _ => Ze o
 | op =>
  match yh P G.objs σ.bl σ.ev op with
  | some (ps, r) => Yo ps (k (σ.put o.dst r))
  | none => Ze o
def XT (P : Program) (G : Cx) (m : Option Nat) (ops : List Oper) (o : Oper) (σ : zK) (k : zK → Prop) : Prop :=
 match o.guard with
 | none => vk P G m σ o k
 | some (j, want) =>
  match Yz ops σ j want with
  | some g =>
   match G.conc && !g with
   | true => k (σ.put o.dst (.gd false (uD P o.type)))
   | false => Sq P G g σ o k
  | none => Ze o
end Go.Sx

namespace Go.Sx
open Go Go.RowKit
section
variable {P : Program} {G : Cx} {m : Option Nat} {ops : List Oper}
theorem U8 {σ σ' : zK} {e : TypeId} {r : AV} (h : xt P σ e = some (σ', r)) : yO m none σ σ' ∧ ∀ (d : Option Tmp) (x : AV), xt P (σ.put d x) e = some (σ'.put d x, r) := by
 unfold xt at h ⊢
 repeat' split at h
 all_goals first | cases h | skip
 ·rename_i hc
  refine ⟨yO.add _ _, fun d x => ?_⟩
  simp only [xJ, Xq, if_pos hc]
 ·rename_i hn hc
  refine ⟨yO.add _ _, fun d x => ?_⟩
  simp only [xJ, Xq, if_neg hn, if_pos hc]
 ·rename_i hc
  refine ⟨yO.add _ _, fun d x => ?_⟩
  simp only [xJ, Xq, if_pos hc]
theorem Ry {σ σ' : zK} {t : TypeId} {v r : AV} (h : wO σ t v = some (σ', r)) : yO m none σ σ' ∧ ∀ (d : Option Tmp) (x : AV), wO (σ.put d x) t v = some (σ'.put d x, r) := by
 unfold wO at h ⊢
 split at h
 ·rename_i n cs hc
  cases h
  exact ⟨yO.add _ _, fun d x => by simp only [wy, Xq, xJ, hc]⟩
 ·cases h
theorem U6 {σ σ' : zK} {t : TypeId} {n : Nat} {idx : List Nat} {xs : List AV} {r : AV} (h : ZM P σ t n idx xs = some (σ', r)) :
  yO m none σ σ' ∧ ∀ (d : Option Tmp) (x : AV), ZM P (σ.put d x) t n idx xs = some (σ'.put d x, r) := by
 obtain ⟨rfl, h2⟩ := Yq h
 exact ⟨yO.refl _ _, fun d x => h2 _⟩
theorem TK {σ σ' : zK} {t : TypeId} {l c r : AV} {ps : List zn} (h : yq P σ t l c = some (ps, σ', r)) :
  yO m none σ σ' ∧ ∀ (d : Option Tmp) (x : AV), yq P (σ.put d x) t l c = some (ps, σ'.put d x, r) := by
 unfold yq at h ⊢
 repeat' split at h
 all_goals first | cases h | skip
 rename_i hc
 refine ⟨yO.add _ _, fun d x => ?_⟩
 simp only [xJ, Xq, if_pos hc]
theorem rp {G : Cx} {σ σ' : zK} {f : FuncId} {xs : List AV} {r : AV} {ps : List zn} (h : YG G σ f xs = some (ps, σ', r)) :
  yO m none σ σ' ∧ ∀ d x, YG G (σ.put d x) f xs = some (ps, σ'.put d x, r) := by
 unfold YG at h ⊢
 split at h
 ·rename_i hf
  cases h
  exact ⟨yO.add _ _, fun d x => by simp only [xJ, Xq]⟩
 ·cases h
theorem S9 {G : Cx} {σ : zK} {d : Option Tmp} {x : AV} {f : FuncId} {xs : List AV} (h : YG G (σ.put d x) f xs = none) : YG G σ f xs = none := by
 unfold YG at h ⊢
 grind
theorem QK {m : Option Nat} {x : AV} (h : ¬ ((x.hasOwn && !sf m x) = true)) : x.hasOwn = false ∨ sf m x = true := by
 grind
theorem wQ {σ σ' : zK} {t : TypeId} {s v r : AV} {ps : List zn} (hs : s.hasOwn = false ∨ sf m s = true) (h : y7 P σ t s v = some (ps, σ', r)) :
  yO m none σ σ' ∧ ∀ (d : Option Tmp) (x : AV), y7 P (σ.put d x) t s v = some (ps, σ'.put d x, r) := by
 unfold y7 at h ⊢
 repeat' split at h
 all_goals first | cases h | skip
 ·refine ⟨yO.add _ _, fun d x => ?_⟩
  simp only [xJ, Xq, wy]
  simp_all
 ·refine ⟨⟨rfl, Nat.le_refl _, fun k' _ => rfl, fun _ _ => rfl⟩, fun d x => ?_⟩
  simp only [wy]
  simp_all
 ·refine ⟨yO.add _ _, fun d x => ?_⟩
  simp only [xJ, Xq, wy]
  simp_all
 ·rename_i k n _ _ _ _ _ _ hcc
  have hm : ∀ k', k' < Ro m σ.nb → k' ≠ k := by
   rcases hs with hs | hs
   ·cases hs
   ·cases m with
    | none => cases hs
    | some m' =>
     have h1 : m' ≤ k := Nat.le_of_ble_eq_true hs
     intro k' hk'
     have := NS (m := m') (n := σ.nb)
     omega
  refine ⟨⟨rfl, Nat.le_succ _, fun k' hk' => ?_, fun _ _ => rfl⟩, fun d x => ?_⟩
  ·show upd (upd σ.bl k .dead) σ.nb _ k' = _
   rw [zN _ _ (Nat.ne_of_lt (Nat.lt_of_lt_of_le hk' NQ)), zN _ _ (hm k' hk')]
  ·simp only [Xq, wy]
   cases d <;> simp_all [zK.put]
def old (σ : zK) : Option Tmp → AV
 | some t => σ.tm t
 | none => .junk
theorem pW (σ : zK) (d : Option Tmp) (x : AV) : (σ.put d x).put d (old σ d) = σ := by
 cases d with
 | none => rfl
 | some d =>
  obtain ⟨n, tm, nb, bl⟩ := σ
  simp only [zK.put, old, zK.mk.injEq, true_and, and_true]
  funext t
  by_cases h : t = d
  ·subst h; rw [upd_same]
  ·rw [zN _ _ h, zN _ _ h]
theorem ny {f : zK → Option (zK × AV)} (hf : ∀ σ σ' r, f σ = some (σ', r) → yO m none σ σ' ∧ ∀ d x, f (σ.put d x) = some (σ'.put d x, r)) {σ σ1 : zK} {d : Option Tmp} {x r : AV}
  (h : f (σ.put d x) = some (σ1, r)) : ∃ σ', f σ = some (σ', r) ∧ yO m none σ σ' ∧ σ1 = σ'.put d x := by
 obtain ⟨h1, h2⟩ := hf _ _ _ h
 have h3 := h2 d (old σ d)
 rw [pW] at h3
 grind
theorem oh {f : zK → Option (List zn × zK × AV)} (hf : ∀ σ ps σ' r, f σ = some (ps, σ', r) → yO m none σ σ' ∧ ∀ d x, f (σ.put d x) = some (ps, σ'.put d x, r)) {σ σ1 : zK} {d : Option Tmp} {x r : AV} {ps : List zn}
  (h : f (σ.put d x) = some (ps, σ1, r)) : ∃ σ', f σ = some (ps, σ', r) ∧ yO m none σ σ' ∧ σ1 = σ'.put d x := by
 obtain ⟨h1, h2⟩ := hf _ _ _ _ h
 have h3 := h2 d (old σ d)
 rw [pW] at h3
 grind
theorem Z3 {σ σ' : zK} {d d' : Option Tmp} {x y : AV} {K : zK → Prop} (h : yO m none σ σ') (hd : ∀ t, d = some t → d' ≠ some t) (hK : K ((σ'.put d x).put d' y)) :
  yO m d' σ (σ'.put d' y) ∧ K ((σ'.put d' y).put d x) := ⟨h.put d' y, by rw [put_comm hd] at hK; exact hK⟩
theorem PD {σ : zK} {d : Option Tmp} {x : AV} {j : Nat} {want : Bool} (h : ∀ t, d = some t → (ops[j]?).bind (·.dst) ≠ some t) : Yz ops (σ.put d x) j want = Yz ops σ j want := by
 unfold Yz
 cases ho : ops[j]? with
 | none => rfl
 | some o =>
  simp only
  cases hd : o.dst with
  | none => rfl
  | some t =>
   simp only
   cases d with
   | none => rfl
   | some d =>
    have hne : t ≠ d := fun e => h d rfl (by rw [ho, Option.bind_some, hd, e])
    simp only [zK.put, zN _ _ hne]
theorem VL {ex : TypeId → (AV → Prop) → Prop} (hex : ∀ t k k', (∀ r, k r → k' r) → ex t k → ex t k') : ∀ (ts : List TypeId) (k k' : List AV → Prop), (∀ r, k r → k' r) → wE ex ts k → wE ex ts k'
 | [], _, _, h, hk => h _ hk
 | _ :: ts, _, _, h, hk => hex _ _ _ (fun _ hv => VL hex ts _ _ (fun _ hr => h _ hr) hv) hk
theorem tR : ∀ (n : Nat) (t : TypeId) (k k' : AV → Prop), (∀ r, k r → k' r) → VG P n t k → VG P n t k'
 | 0, _, _, _, h, ⟨r, hr⟩ => ⟨r, h _ hr⟩
 | n + 1, t, k, k', h, hk => by
  unfold VG at hk ⊢
  split at hk
  ·grind
  ·grind
  ·grind
  ·grind
  ·exact VL (tR n) _ _ _ (fun r hr => h _ hr) hk
  grind
theorem zb {ps : List zn} {k k' : Prop} (h : k → k') (hp : Yo ps k) : Yo ps k' := by
 rw [ZP] at hp ⊢
 simp_all
theorem Ya {g : Bool} {ps : List zn} {k k' : Prop} (h : k → k') (hp : Sf g ps k) : Sf g ps k' := by
 rw [yP] at hp ⊢
 simp_all
theorem UV {o : Oper} {d : Option Tmp} (h : ∀ t, d = some t → t ∉ o.looksAt ops.toArray) : ∀ x ∈ o.op.operands, ∀ t, x = .tmp t → d ≠ some t := fun x hx t hxt hd =>
 h t hd (List.mem_append_left _ (List.mem_filterMap.2 ⟨x, Array.mem_toList_iff.2 hx, by rw [hxt]⟩))
theorem VR {o : Oper} {d : Option Tmp} {j : Nat} {want : Bool} (h : ∀ t, d = some t → t ∉ o.looksAt ops.toArray) (hg : o.guard = some (j, want)) :
  ∀ t, d = some t → (ops[j]?).bind (·.dst) ≠ some t := fun t hd he =>
 h t hd (List.mem_append_right _ (by rw [hg]; simp only [List.getElem?_toArray]; rw [he]; simp))
theorem UH {g : Option Bool} {ps : List zn} {k k' : Prop} (h : k → k') (hp : OV g ps k) : OV g ps k' := by
 cases g with
 | none => exact zb h hp
 | some g => exact Ya h hp
theorem YV {P : Program} {G : Cx} {g : Option Bool} {f : FuncId} {xs : List AV} {t : TypeId} {K K' : AV → Prop} (h : ∀ r, K r → K' r) (hk : xm P G g f xs t K) : xm P G g f xs t K' := by
 unfold xm at hk ⊢
 split at hk
 ·exact UH (h _) hk
 ·exact tR 3 _ _ _ (fun r hr => ⟨hr.1, h r hr.2⟩) hk
theorem wX {P : Program} {G : Cx} {g : Option Bool} {f : FuncId} {xs : List AV} {t : TypeId} {K K' : AV → Prop} (h : ∀ r, K r → K' r) (hk : wt P G g f xs t K) : wt P G g f xs t K' := by
 unfold wt at hk ⊢
 split at hk
 ·grind
 ·exact YV h hk
theorem YS {σ σ' : zK} {l : List Operand} (h : ∀ x ∈ l, σ'.ev x = σ.ev x) : Zc σ' l = Zc σ l := by
 unfold Zc
 rw [List.flatMap_def, List.flatMap_def]
 congr 1
 simp_all
theorem Yu {σ σ' : zK} {x : Operand} (h : σ'.ev x = σ.ev x) : σ'.sv x = σ.sv x := by unfold zK.sv; rw [h]
theorem rX {σ : zK} {o : Oper} {d : Option Tmp} {x : AV} {f : FuncId} {xs : List AV} {K : zK → Prop} (h2 : ∀ t, d = some t → o.dst ≠ some t) (h : Xu P G (σ.put d x) o f xs K) :
  Xu P G σ o f xs fun σ' => yO m o.dst σ σ' ∧ K (σ'.put d x) := by
 unfold Xu at h ⊢
 simp only [wy, Xq, xJ] at h
 split at h
 ·exact h.elim
 ·split at h
  ·exact YV (fun r hk => Z3 (yO.refl none σ) h2 hk) h
  omega
theorem s8 {σ : zK} {o : Oper} {f : FuncId} {xs : List AV} {K K' : zK → Prop} (hk : ∀ σ, K σ → K' σ) (h : Xu P G σ o f xs K) : Xu P G σ o f xs K' := by
 unfold Xu at h ⊢
 split at h
 ·exact h.elim
 ·split at h
  ·exact YV (fun r h => hk _ h) h
  omega
theorem mr {σ : zK} {o : Oper} {d : Option Tmp} {x : AV} {K : zK → Prop} (h1 : ∀ x ∈ o.op.operands, ∀ t, x = .tmp t → d ≠ some t) (h2 : ∀ t, d = some t → o.dst ≠ some t)
  (h : vk P G m (σ.put d x) o K) : vk P G m σ o fun σ' => yO m o.dst σ σ' ∧ K (σ'.put d x) := by
 have hev : ∀ y ∈ o.op.operands, (σ.put d x).ev y = σ.ev y := fun y hy => mm (h1 y hy)
 have hsv : ∀ y ∈ o.op.operands, (σ.put d x).sv y = σ.sv y := fun y hy => Yu (hev y hy)
 have gr : ∀ r, K ((σ.put d x).put o.dst r) → yO m o.dst σ (σ.put o.dst r) ∧ K ((σ.put o.dst r).put d x) := fun r hk => Z3 (yO.refl none σ) h2 hk
 unfold vk at h ⊢
 split at h
 ·rename_i e ho
  simp only
  split at h
  ·rename_i σ1 r he
   obtain ⟨σ', g1, g2, rfl⟩ := ny (f := fun σ => xt P σ e) (fun _ _ _ h => U8 h) he
   simp only [g1]
   exact Z3 g2 h2 h
  ·exact h.elim
 ·rename_i t y ho
  have e1 := hev y (by rw [ho]; simp [Op.operands])
  have e2 := hsv y (by rw [ho]; simp [Op.operands])
  simp only [e1, e2] at h
  simp only
  split at h
  ·rename_i σ1 r he
   obtain ⟨σ', g1, g2, rfl⟩ := ny (f := fun s => wO s t (σ.sv y)) (fun _ _ _ h => Ry h) he
   simp only [g1]
   exact zb (Z3 g2 h2) h
  ·exact h.elim
 ·exact h.elim
 ·rename_i t n parts ho
  have hin : ∀ p ∈ parts.toList, p.2 ∈ o.op.operands := fun p hp => by rw [ho]; simp only [Op.operands, List.mem_toArray, List.mem_map]; exact ⟨p, hp, rfl⟩
  have e1 : (parts.toList.map fun p => (σ.put d x).sv p.2) = parts.toList.map fun p => σ.sv p.2 := List.map_congr_left fun p hp => hsv _ (hin p hp)
  have e2 : Zc (σ.put d x) (parts.toList.map (·.2)) = Zc σ (parts.toList.map (·.2)) := YS fun y hy => by
   obtain ⟨p, hp, rfl⟩ := List.mem_map.1 hy
   exact hev _ (hin p hp)
  simp only [e1, e2] at h
  simp only
  split at h
  ·exact h.elim
  ·rename_i hno
   rw [if_neg hno]
   split at h
   ·rename_i σ1 r he
    obtain ⟨σ', g1, g2, rfl⟩ := ny (f := fun s => ZM P s t n (parts.toList.map fun p : Nat × Operand => p.1) (parts.toList.map fun p : Nat × Operand => σ.sv p.2)) (fun _ _ _ h => U6 h) he
    simp only [g1]
    exact zb (Z3 g2 h2) h
   ·exact h.elim
 ·rename_i t l c ho
  have e1 := hev l (by rw [ho]; simp [Op.operands])
  have e2 := hev c (by rw [ho]; simp [Op.operands])
  simp only [e1, e2, Yu e1, Yu e2] at h
  simp only
  split at h
  ·rename_i ps σ1 r he
   obtain ⟨σ', g1, g2, rfl⟩ := oh (f := fun s => yq P s t (σ.sv l) (σ.sv c)) (fun _ _ _ _ h => TK h) he
   simp only [g1]
   exact zb (Z3 g2 h2) h
  ·exact h.elim
 ·rename_i f args ts ho
  have e1 := hev f (by rw [ho]; simp [Op.operands, Call.operands])
  have hin : ∀ y ∈ args.toList, y ∈ o.op.operands := fun y hy => by rw [ho]; simp only [Op.operands, Call.operands, Array.mem_append]; exact .inr (Array.mem_toList_iff.1 hy)
  have e2 : args.toList.map (σ.put d x).sv = args.toList.map σ.sv := List.map_congr_left fun y hy => hsv _ (hin y hy)
  have e3 : Zc (σ.put d x) args.toList = Zc σ args.toList := YS fun y hy => hev _ (hin y hy)
  simp only [e1, e2, e3, Yu e1] at h
  simp only
  split at h
  ·refine zb (fun h => ?_) h
   split at h
   ·rename_i hown
    rw [if_pos hown]
    exact rX h2 h
   ·rename_i hno
    rw [if_neg hno]
    split at h
    ·rename_i ps σ1 r he
     obtain ⟨σ', g1, g2, rfl⟩ := oh (f := fun u => YG G u _ _) (fun _ _ _ _ h => rp h) he
     simp only [g1]
     exact zb (Z3 g2 h2) h
    ·rename_i he
     rw [S9 he]
     exact wX gr h
  ·exact h.elim
 ·rename_i args ts ho
  have hin : ∀ y ∈ args.toList, y ∈ o.op.operands := fun y hy => by rw [ho]; simp only [Op.operands, Call.operands, Array.mem_append]; exact .inr (Array.mem_toList_iff.1 hy)
  simp only
  split at h
  ·rename_i s y t t' ha ht
   have e1 := hev s (hin s (by rw [ha]; simp))
   have e2 := hev y (hin y (by rw [ha]; simp))
   simp only [e1, e2, Yu e1, Yu e2] at h
   split at h
   ·rename_i htt
    rw [if_pos htt]
    split at h
    ·exact h.elim
    ·rename_i hno
     rw [if_neg hno]
     split at h
     ·rename_i ps σ1 r he
      obtain ⟨σ', g1, g2, rfl⟩ := oh (f := fun u => y7 P u t (σ.sv s) (σ.sv y)) (fun _ _ _ _ h => wQ (QK hno) h) he
      simp only [g1]
      exact zb (Z3 g2 h2) h
     ·rename_i he0
      have e0 : y7 P σ t (σ.sv s) (σ.sv y) = none := by
       cases h0 : y7 P σ t (σ.sv s) (σ.sv y) with
       | none => rfl
       | some q =>
        obtain ⟨ps, σ1, r⟩ := q
        rw [(wQ (QK hno) h0).2 d x] at he0
        cases he0
      exact h.elim
   ·exact h.elim
  ·exact h.elim
 ·have e : yh P G.objs (σ.put d x).bl (σ.put d x).ev o.op = yh P G.objs σ.bl σ.ev o.op := vG hev fun _ _ _ _ => by rw [wy]
  rw [e] at h
  split at h
  ·rename_i ps r he
   exact zb (gr r) h
  ·exact h.elim
theorem MF {g : Bool} {σ : zK} {o : Oper} {d : Option Tmp} {x : AV} {K : zK → Prop} (h1 : ∀ x ∈ o.op.operands, ∀ t, x = .tmp t → d ≠ some t) (h2 : ∀ t, d = some t → o.dst ≠ some t)
  (h : Sq P G g (σ.put d x) o K) : Sq P G g σ o fun σ' => yO m o.dst σ σ' ∧ K (σ'.put d x) := by
 have hev : ∀ y ∈ o.op.operands, (σ.put d x).ev y = σ.ev y := fun y hy => mm (h1 y hy)
 have hsv : ∀ y ∈ o.op.operands, (σ.put d x).sv y = σ.sv y := fun y hy => Yu (hev y hy)
 have gr : ∀ r, K ((σ.put d x).put o.dst r) → yO m o.dst σ (σ.put o.dst r) ∧ K ((σ.put o.dst r).put d x) := fun r hk => Z3 (yO.refl none σ) h2 hk
 unfold Sq at h ⊢
 split at h
 ·rename_i f args ts ho
  have e1 := hev f (by rw [ho]; simp [Op.operands, Call.operands])
  have hin : ∀ y ∈ args.toList, y ∈ o.op.operands := fun y hy => by rw [ho]; simp only [Op.operands, Call.operands, Array.mem_append]; exact .inr (Array.mem_toList_iff.1 hy)
  have e2 : args.toList.map (σ.put d x).sv = args.toList.map σ.sv := List.map_congr_left fun y hy => hsv _ (hin y hy)
  have e3 : Zc (σ.put d x) args.toList = Zc σ args.toList := YS fun y hy => hev _ (hin y hy)
  simp only [e1, e2, e3, Yu e1, wy] at h
  simp only
  split at h
  ·refine Ya (fun h => ?_) h
   split at h
   ·rename_i hno
    rw [if_pos hno]
    split at h
    ·split at h
     ·exact gr _ h
     ·exact h.elim
    ·split at h
     ·rename_i hs
      rw [if_pos hs]
      exact YV (fun r hr => gr _ hr) h
     ·exact h.elim
   ·rename_i hno
    rw [if_neg hno]
    exact wX (fun r hr => gr _ hr) h
  ·exact h.elim
 ·rename_i tb lb parts ho
  have hin : ∀ p ∈ parts.toList, p.2 ∈ o.op.operands := fun p hp => by rw [ho]; simp only [Op.operands, List.mem_toArray, List.mem_map]; exact ⟨p, hp, rfl⟩
  have e1 : (parts.toList.map fun p => (σ.put d x).sv p.2) = parts.toList.map fun p => σ.sv p.2 := List.map_congr_left fun p hp => hsv _ (hin p hp)
  have e2 : Zc (σ.put d x) (parts.toList.map (·.2)) = Zc σ (parts.toList.map (·.2)) := YS fun y hy => by
   obtain ⟨p, hp, rfl⟩ := List.mem_map.1 hy
   exact hev _ (hin p hp)
  rw [e1, e2] at h
  split at h
  ·exact h.elim
  ·rename_i hno
   rw [if_neg hno]
   split at h
   ·rename_i σ1 r he
    rw [(Yq he).2 σ]
    exact Ya (gr _) h
   ·exact h.elim
 ·have e : yh P G.objs (σ.put d x).bl (σ.put d x).ev o.op = yh P G.objs σ.bl σ.ev o.op := vG hev fun _ _ _ _ => by rw [wy]
  rw [e] at h
  split at h
  ·exact Ya (gr _) h
  ·exact h.elim
theorem PM {σ : zK} {o : Oper} {d : Option Tmp} {x : AV} {K : zK → Prop} (h1 : ∀ t, d = some t → t ∉ o.looksAt ops.toArray) (h2 : ∀ t, d = some t → o.dst ≠ some t)
  (h : XT P G m ops o (σ.put d x) K) : XT P G m ops o σ fun σ' => yO m o.dst σ σ' ∧ K (σ'.put d x) := by
 unfold XT at h ⊢
 split at h
 ·exact mr (UV h1) h2 h
 ·rename_i j want hg
  rw [PD (VR h1 hg)] at h
  split at h
  ·rename_i g _
   cases hc : G.conc && !g with
   | true =>
    rw [hc] at h
    exact Z3 (yO.refl none σ) h2 h
   | false =>
    rw [hc] at h
    exact MF (UV h1) h2 h
  omega
theorem pA {σ : zK} {o : Oper} {K K' : zK → Prop} (hk : ∀ σ, K σ → K' σ) (h : vk P G m σ o K) : vk P G m σ o K' := by
 unfold vk at h ⊢
 split at h
 ·grind
 ·split at h
  ·exact zb (hk _) h
  ·exact h
 ·exact h
 ·split at h
  ·exact h.elim
  ·rename_i hno
   rw [if_neg hno]
   split at h
   ·exact zb (hk _) h
   ·exact h
 ·split at h
  ·exact zb (hk _) h
  ·exact h
 ·split at h
  ·refine zb (fun h => ?_) h
   split at h
   ·rename_i hown
    rw [if_pos hown]
    exact s8 hk h
   ·rename_i hno
    rw [if_neg hno]
    split at h
    ·exact zb (hk _) h
    ·exact wX (fun r hr => hk _ hr) h
  ·exact h
 ·split at h
  ·split at h
   ·rename_i htt
    rw [if_pos htt]
    split at h
    ·exact h.elim
    ·rename_i hno
     rw [if_neg hno]
     split at h
     ·exact zb (hk _) h
     ·exact h
   simp_all
  ·exact h
 ·split at h
  ·exact zb (hk _) h
  ·exact h
theorem vu {g : Bool} {σ : zK} {o : Oper} {K K' : zK → Prop} (hk : ∀ σ, K σ → K' σ) (h : Sq P G g σ o K) : Sq P G g σ o K' := by
 unfold Sq at h ⊢
 split at h
 ·split at h
  ·refine Ya (fun h => ?_) h
   split at h
   ·rename_i hno
    rw [if_pos hno]
    split at h
    ·grind
    ·split at h
     ·rename_i hs
      rw [if_pos hs]
      exact YV (fun r hr => hk _ hr) h
     simp_all
   ·rename_i hno
    rw [if_neg hno]
    exact wX (fun r hr => hk _ hr) h
  ·exact h
 ·split at h
  ·exact h.elim
  ·rename_i hno
   rw [if_neg hno]
   split at h
   ·exact Ya (hk _) h
   ·exact h
 ·split at h
  ·exact Ya (hk _) h
  ·exact h
theorem Wa {σ : zK} {o : Oper} {K K' : zK → Prop} (hk : ∀ σ, K σ → K' σ) (h : XT P G m ops o σ K) : XT P G m ops o σ K' := by
 unfold XT at h ⊢
 split at h
 ·exact pA hk h
 ·split at h
  ·rename_i g _
   cases hc : G.conc && !g with
   | true => simp_all
   | false => rw [hc] at h; exact vu hk h
  ·exact h
theorem U1 {σ : zK} {xs : List AV} (h : ¬ (xs.any AV.hasOwn) = true) : YC σ xs = some (σ, xs) := by unfold YC; rw [if_neg h]
theorem OI {σ : zK} {o : Oper} {K : zK → Prop} (h : vk P G m σ o K) : kM P G σ o K := by
 unfold vk at h
 unfold kM
 split at h
 ·grind
 ·grind
 ·exact h.elim
 ·rename_i ho
  simp only [ho]
  split at h
  ·exact h.elim
  ·rename_i hno
   rw [sx hno, U1 fun h => hno (by rw [h]; rfl)]
   exact h
 ·grind
 ·rename_i ho
  simp only [ho]
  split at h
  ·rename_i hf
   simp only [hf]
   refine zb (fun h => ?_) h
   split at h
   ·rename_i hown
    unfold wg
    rw [if_pos hown]
    unfold Xu at h
    split at h
    ·exact h.elim
    ·rename_i ho0
     rw [ho0]
     simp only
     split at h
     ·simp_all
     ·exact h.elim
   ·rename_i hno
    unfold wg
    rw [if_neg hno]
    split at h
    ·simp_all
    rename_i he
    rw [he]
    unfold wt at h
    split at h
    ·exact h.elim
    ·exact h
  ·exact h.elim
 ·rename_i ho
  simp only [ho]
  split at h
  ·rename_i ha ht
   simp only [ha, ht]
   split at h
   ·split at h
    ·exact h.elim
    grind
   ·exact h.elim
  simp_all
 grind
theorem Pj {g : Bool} {σ : zK} {o : Oper} {K : zK → Prop} (h : Sq P G g σ o K) : TI P G g σ o K := by
 unfold TI
 split
 ·rename_i ho
  split
  ·rename_i hf
   split
   ·rename_i hi
    unfold Sq at h
    simp only [ho, hf, yP] at h
    obtain ⟨h1, h2⟩ := h
    unfold wt at h2
    rw [hi] at h2
    cases g with
    | true => split at h2 <;> exact h2.elim
    | false => split at h2 <;> exact h2
   ·exact h
  ·rename_i hf
   unfold Sq at h
   simp only [ho, hf] at h
   exact h.elim
  ·exact h
 ·exact h
theorem tJ {σ : zK} {o : Oper} {K : zK → Prop} (h : XT P G m ops o σ K) : U4 P G ops o σ K := by
 unfold XT at h
 unfold U4
 cases hg : o.guard with
 | none => rw [hg] at h; exact OI h
 | some jw =>
  rw [hg] at h
  simp only at h ⊢
  split at h
  ·rename_i g hga
   simp only [hga]
   cases hc : G.conc && !g with
   | true => simp_all
   | false => rw [hc] at h; exact Pj h
  simp_all
end
end Go.Sx
