/- Regions whose operations come in any order: what only computes or reads may be taken first. -/
import Derived.Test.YthbpnknhfokadaaGreatDoorSxK
set_option linter.unusedSimpArgs false
set_option linter.unusedVariables false
namespace Go.Sx
open Go Go.RowKit
def AV.top : AV → Option Nat
 | .np k _ | .ns k _ _ | .ap k _ _ | .ps k _ => some k
 | _ => none
section
variable {P : Program} {bl bl' : Nat → OB}
theorem Sg {sh : Option Nat} {x : AV} (h : ∀ k, x.top = some k → bl' k = bl k) : Y7 bl' sh x = Y7 bl sh x := by
 cases x <;> simp only [Y7] <;> rw [h _ rfl]
theorem R7 {x : AV} (h : ∀ k, x.top = some k → bl' k = bl k) : WY bl' x = WY bl x := by
 cases x <;> simp only [WY] <;> first | rw [h _ rfl] | (split <;> first | rfl | (rename_i e; cases e) | simp_all)
theorem RN {P : Program} {bl bl' : Nat → OB} {s d : TypeId} {x : AV} (h : ∀ k, x.top = some k → bl' k = bl k) : T8 P bl' s d x = T8 P bl s d x := by
 have e : Ud bl' 1 x = Ud bl 1 x := by
  cases x <;> first | rfl | skip
  rename_i k off m
  unfold Ud
  simp only [h k rfl]
 unfold T8
 rw [e]
theorem R3 {x : AV} {d : Nat} (h : ∀ k, x.top = some k → bl' k = bl k) : x.shift bl' d = x.shift bl d := by
 cases x <;> simp only [AV.shift] <;> rw [h _ rfl]
theorem un {t : TypeId} {x ix : AV} (h : ∀ k, x.top = some k → bl' k = bl k) : YF P bl' t x ix = YF P bl t x ix := by
 unfold YF
 split
 ·split
  ·cases x with
   | ns k off len => have e := h k rfl; cases P.info? _ <;> simp only [e]
   | ps k len => have e := h k rfl; cases P.info? _ <;> simp only [e]
   | _ => cases P.info? _ <;> rfl
  ·cases x with
   | ap k i j => have e := h k rfl; cases P.info? _ <;> cases j <;> simp only [e]
   | np k off => have e := h k rfl; cases P.info? _ <;> simp only [e]
   | _ => cases P.info? _ <;> rfl
  ·rfl
 ·rfl
theorem RR {t : TypeId} {x : AV} {lo hi mx : Option AV} (h : ∀ k, x.top = some k → bl' k = bl k) : WG P bl' t x lo hi mx = WG P bl t x lo hi mx := by
 unfold WG
 rcases P.underlying t with _ | u
 ·rfl
 ·cases u with
  | string =>
   grind
  | slice e =>
   cases x with
   | ns k off len =>
    have e := h k rfl
    grind
   | xl => grind
   | _ => rfl
  | _ => rfl
theorem oS {t : TypeId} {x : AV} (h : ∀ k, x.top = some k → bl' k = bl k) : TM P bl' t x = TM P bl t x := by
 unfold TM
 rcases P.underlying t with _ | u
 ·rfl
 ·cases x with
  | ns k off len =>
   have e := h k rfl
   grind
  | v x => grind
  | _ => cases u <;> rfl
theorem lw {b : Builtin} {ts : List TypeId} {xs : List AV} (h : ∀ x ∈ xs, ∀ k, x.top = some k → bl' k = bl k) : py P bl' b ts xs = py P bl b ts xs := by
 unfold py
 split <;> first | rfl | exact oS (h _ (by simp))
theorem SN {x : AV} (h : ∀ k, x.top = some k → bl' k = bl k) : vR bl' x = vR bl x := by
 unfold vR
 cases x with
 | ns k off len => simp only [h k rfl]
 | _ => rfl
theorem pY {op : BinOp} {t : TypeId} {x y : AV} (h1 : ∀ k, x.top = some k → bl' k = bl k) (h2 : ∀ k, y.top = some k → bl' k = bl k) : od P bl' op t x y = od P bl op t x y := by
 unfold od rQ
 rw [SN h1]
 cases y with
 | np k' o' => simp only [h2 k' rfl]
 | v u =>
  grind
 | _ => rfl
theorem Vb {ob : List (Nat × Obj)} {ev ev' : Operand → AV} {o : Op} (he : ∀ x ∈ o.operands, ev' x = ev x) (hb : ∀ x ∈ o.operands, ∀ k, (ev x).strip.top = some k → bl' k = bl k) :
  ye P ob bl' ev' o = ye P ob bl ev o := by
 have hg : ((Yl o).flatMap fun x => (ev' x).gprop) = (Yl o).flatMap fun x => (ev x).gprop := by
  rw [List.flatMap_def, List.flatMap_def]
  congr 1
  refine List.map_congr_left fun x hx => ?_
  rw [he x]
  cases o <;> first | exact Array.mem_toList_iff.1 hx | cases hx
 have hr : ZK P ob bl' ev' (fun x => (ev' x).strip) o = ZK P ob bl ev (fun x => (ev x).strip) o := by
  have hm : ∀ l : List Operand, (∀ x ∈ l, x ∈ o.operands) → l.map (fun x => (ev' x).strip) = l.map fun x => (ev x).strip := fun l hl => List.map_congr_left fun x hx => by rw [he x (hl x hx)]
  have ho : ∀ l : Option Operand, (∀ x, l = some x → x ∈ o.operands) → l.map (fun x => (ev' x).strip) = l.map fun x => (ev x).strip := fun l hl => by
   cases l with
   | none => rfl
   | some x => simp only [Option.map_some, he x (hl x rfl)]
  cases o with
  | move x => simp only [ZK, he x (by simp [Op.operands])]
  | assign x => simp only [ZK, he x (by simp [Op.operands])]
  | pick c a b => simp only [ZK, he c (by simp [Op.operands]), he a (by simp [Op.operands]), he b (by simp [Op.operands])]
  | load t x =>
   have h := hb x (by simp [Op.operands])
   simp only [ZK, he x (by simp [Op.operands]), Sg h]
  | nilCheck x =>
   have h := hb x (by simp [Op.operands])
   simp only [ZK, he x (by simp [Op.operands]), R7 h]
  | binOp op t x y t' =>
   have h1 := hb x (by simp [Op.operands])
   have h2 := hb y (by simp [Op.operands])
   simp only [ZK, he x (by simp [Op.operands]), he y (by simp [Op.operands]), pY h1 h2]
  | build t parts =>
   have : (parts.toList.map fun p => (p.1, (ev' p.2).strip)) = parts.toList.map fun p => (p.1, (ev p.2).strip) := List.map_congr_left fun p hp => by
    rw [he p.2 (by simp only [Op.operands, List.mem_toArray, List.mem_map]; exact ⟨p, hp, rfl⟩)]
   simp only [ZK, this]
  | unOp op t x => simp only [ZK, he x (by simp [Op.operands])]
  | convert s d x =>
   have h := hb x (by simp [Op.operands])
   simp only [ZK, he x (by simp [Op.operands]), RN h]
  | makeFunc f a b =>
   simp only [ZK, hm a.toList fun x hx => by simp only [Op.operands, Array.mem_append]; exact .inl (Array.mem_toList_iff.1 hx),
    hm b.toList fun x hx => by simp only [Op.operands, Array.mem_append]; exact .inr (Array.mem_toList_iff.1 hx)]
  | slice t x a b c =>
   have h := hb x (by simp [Op.operands])
   simp only [ZK, he x (by simp [Op.operands]), RR h, ho a fun x hx => by simp [Op.operands, hx], ho b fun x hx => by simp [Op.operands, hx],
    ho c fun x hx => by simp [Op.operands, hx]]
  | fieldAddr t x f =>
   have h := hb x (by simp [Op.operands])
   simp only [ZK, he x (by simp [Op.operands]), R3 h]
  | field t x f => simp only [ZK, he x (by simp [Op.operands])]
  | indexAddr t x i =>
   have h := hb x (by simp [Op.operands])
   simp only [ZK, he x (by simp [Op.operands]), he i (by simp [Op.operands]), un h]
  | index t x i => simp only [ZK, he x (by simp [Op.operands]), he i (by simp [Op.operands])]
  | extract x i => simp only [ZK, he x (by simp [Op.operands])]
  | call c =>
   obtain ⟨cal, args, ts⟩ := c
   cases cal with
   | builtin b =>
    have hin : ∀ x ∈ args.toList, x ∈ (Op.call ⟨.builtin b, args, ts⟩).operands := fun x hx => by simpa [Op.operands, Call.operands] using hx
    simp only [ZK, hm _ hin]
    rw [lw]
    intro x hx k hk
    obtain ⟨y, hy, rfl⟩ := List.mem_map.1 hx
    exact hb y (hin y hy) k hk
   | _ => rfl
  | _ => rfl
 unfold ye
 rw [hr, hg]
end
def Qb : Option Nat → Nat → Nat
 | none, n => n
 | some m, n => bif Nat.ble m n then m else n
theorem Sc (m n : Nat) : Qb (some m) n = if m ≤ n then m else n := by
 show (bif Nat.ble m n then m else n) = _
 simp
theorem MD {m : Option Nat} {n : Nat} : Qb m n ≤ n := by
 cases m with
 | none => exact Nat.le_refl _
 | some m => rw [Sc]; split <;> omega
theorem mh {m n : Nat} : Qb (some m) n ≤ m := by rw [Sc]; split <;> omega
theorem Nj {m : Option Nat} {n n' : Nat} (h : n ≤ n') : Qb m n ≤ Qb m n' := by
 cases m with
 | none => exact h
 | some m => rw [Sc, Sc]; split <;> split <;> omega
structure yN (m : Option Nat) (d : Option Tmp) (σ σ' : zK) : Prop where
 n : σ'.n = σ.n
 nb : σ.nb ≤ σ'.nb
 bl : ∀ k, k < Qb m σ.nb → σ'.bl k = σ.bl k
 tm : ∀ t, d ≠ some t → σ'.tm t = σ.tm t
theorem yN.refl {m : Option Nat} (d : Option Tmp) (σ : zK) : yN m d σ σ := ⟨rfl, Nat.le_refl _, fun _ _ => rfl, fun _ _ => rfl⟩
theorem yN.put {m : Option Nat} {σ σ' : zK} (h : yN m none σ σ') (d : Option Tmp) (x : AV) : yN m d σ (σ'.put d x) := by
 cases d with
 | none => exact h
 | some d => exact ⟨h.n, h.nb, h.bl, fun t ht => (zN _ _ fun e => ht (by rw [e])).trans (h.tm t (by simp))⟩
theorem yN.add {m : Option Nat} (σ : zK) (B : OB) : yN m none σ (σ.add B) :=
 ⟨rfl, Nat.le_succ _, fun _ hk => zN _ _ (Nat.ne_of_lt (Nat.lt_of_lt_of_le hk MD)), fun _ _ => rfl⟩
theorem Xk (σ : zK) (d : Option Tmp) (x : AV) : (σ.put d x).nb = σ.nb := by cases d <;> rfl
theorem ww (σ : zK) (d : Option Tmp) (x : AV) : (σ.put d x).bl = σ.bl := by cases d <;> rfl
theorem xd (σ : zK) (d : Option Tmp) (x : AV) (B : OB) : (σ.put d x).add B = (σ.add B).put d x := by cases d <;> rfl
theorem put_comm {σ : zK} {d d' : Option Tmp} {x y : AV} (h : ∀ t, d = some t → d' ≠ some t) : (σ.put d x).put d' y = (σ.put d' y).put d x := by
 cases d with
 | none => rfl
 | some d => cases d' with
  | none => rfl
  | some d' =>
   simp only [zK.put, zK.mk.injEq, true_and, and_true]
   funext t
   by_cases h1 : t = d'
   ·subst h1
    rw [upd_same, zN _ _ (fun e => h d rfl (by rw [e])), upd_same]
   ·rw [zN _ _ h1]
    by_cases h2 : t = d
    ·subst h2; rw [upd_same, upd_same]
    ·rw [zN _ _ h2, zN _ _ h2, zN _ _ h1]
theorem yN.ev {m : Option Nat} {σ σ' : zK} {d : Option Tmp} (h : yN m d σ σ') {x : Operand} (hx : ∀ t, x = .tmp t → d ≠ some t) : σ'.ev x = σ.ev x := by
 cases x with
 | tmp t => simp only [zK.ev, h.n, h.tm t (hx t rfl)]
 | _ => rfl
theorem mG {σ : zK} {d : Option Tmp} {v : AV} {x : Operand} (hx : ∀ t, x = .tmp t → d ≠ some t) : (σ.put d v).ev x = σ.ev x := ((yN.refl (m := none) none σ).put d v).ev hx
def Sr : Option Nat → AV → Bool
 | some m, .ns k _ _ => Nat.ble m k
 | _, _ => false
def XN (P : Program) (G : Cx) (σ : zK) (o : Oper) (f : FuncId) (xs : List AV) (k : zK → Prop) : Prop :=
 match G.own f with
 | some _ => ZE o
 | none =>
  match wB P G f (xs.map (lend σ.bl)) o.type with
  | true => xf P G none f (xs.map (lend σ.bl)) o.type fun r => k (σ.put o.dst r)
  | false => ZE o
def Vm (P : Program) (G : Cx) (m : Option Nat) (σ : zK) (o : Oper) (k : zK → Prop) : Prop :=
 match o.op with
 | .alloc elem =>
  match xP P σ elem with
  | some (σ', r) => k (σ'.put o.dst r)
  | none => ZE o
 | .box t x =>
  match wg σ t (σ.sv x) with
  | some (σ', r) => Yj (σ.ev x).gprop (k (σ'.put o.dst r))
  | none => ZE o
 | .store _ _ _ => ZE o
 | .buildSlice t len parts =>
  if ((parts.toList.map fun p => σ.sv p.2).any AV.hasOwn || VB (parts.toList.map (·.2))) = true then ZE o
  else
   match Zl P σ t len (parts.toList.map (·.1)) (parts.toList.map fun p => σ.sv p.2) with
   | some (σ', r) => Yj (Zc σ (parts.toList.map (·.2))) (k (σ'.put o.dst r))
   | none => ZE o
 | .makeSlice t l c =>
  match yM P σ t (σ.sv l) (σ.sv c) with
  | some (ps, σ', r) => Yj ((σ.ev l).gprop ++ (σ.ev c).gprop ++ ps) (k (σ'.put o.dst r))
  | none => ZE o
 | .call { callee := .value f, args, .. } =>
  match σ.sv f with
  | .fn (.func fid) nf first nc cap =>
   Yj ((σ.ev f).gprop ++ Zc σ args.toList) <|
    if (yA nf first (args.toList.map σ.sv) nc cap).any AV.hasOwn then XN P G σ o fid (yA nf first (args.toList.map σ.sv) nc cap) k
    else
     match Y1 G σ fid (yA nf first (args.toList.map σ.sv) nc cap) with
     | some (ps, σ', r) => Yj ps (k (σ'.put o.dst r))
     | none => wL P G none fid (yA nf first (args.toList.map σ.sv) nc cap) o.type fun r => k (σ.put o.dst r)
  | _ => ZE o
 | .call { callee := .builtin .append, args, argTypes } =>
  match args.toList, argTypes.toList with
  | [s, x], [t, t'] =>
   if t = t' then
    if ((σ.sv s).hasOwn && !Sr m (σ.sv s)) = true then ZE o
    else
     match Yz P σ t (σ.sv s) (σ.sv x) with
     | some (ps, σ', r) => Yj ((σ.ev s).gprop ++ (σ.ev x).gprop ++ ps) (k (σ'.put o.dst r))
     | none => ZE o
   else ZE o
  | _, _ => ZE o
 | op =>
  match ye P G.objs σ.bl σ.ev op with
  | some (ps, r) => Yj ps (k (σ.put o.dst r))
  | none => ZE o
def Xn (P : Program) (G : Cx) (m : Option Nat) (ops : List Oper) (o : Oper) (σ : zK) (k : zK → Prop) : Prop :=
 match o.guard with
 | none => Vm P G m σ o k
 | some (j, want) =>
  match YX ops σ j want with
  | some g =>
   match G.conc && !g with
   | true => k (σ.put o.dst (.gd false (U0 P o.type)))
   | false => se P G g σ o k
  | none => ZE o
end Go.Sx

namespace Go.Sx
open Go Go.RowKit
section
variable {P : Program} {G : Cx} {m : Option Nat} {ops : List Oper}
theorem tC {σ σ' : zK} {e : TypeId} {r : AV} (h : xP P σ e = some (σ', r)) : yN m none σ σ' ∧ ∀ (d : Option Tmp) (x : AV), xP P (σ.put d x) e = some (σ'.put d x, r) := by
 unfold xP at h ⊢
 repeat' split at h
 all_goals first | cases h | skip
 ·rename_i hc
  refine ⟨yN.add _ _, fun d x => ?_⟩
  simp only [xd, Xk, if_pos hc]
 ·rename_i hn hc
  refine ⟨yN.add _ _, fun d x => ?_⟩
  simp only [xd, Xk, if_neg hn, if_pos hc]
 ·rename_i hc
  refine ⟨yN.add _ _, fun d x => ?_⟩
  simp only [xd, Xk, if_pos hc]
theorem Rs {σ σ' : zK} {t : TypeId} {v r : AV} (h : wg σ t v = some (σ', r)) : yN m none σ σ' ∧ ∀ (d : Option Tmp) (x : AV), wg (σ.put d x) t v = some (σ'.put d x, r) := by
 unfold wg at h ⊢
 split at h
 ·rename_i n cs hc
  cases h
  exact ⟨yN.add _ _, fun d x => by simp only [ww, Xk, xd, hc]⟩
 ·cases h
theorem tB {σ σ' : zK} {t : TypeId} {n : Nat} {idx : List Nat} {xs : List AV} {r : AV} (h : Zl P σ t n idx xs = some (σ', r)) :
  yN m none σ σ' ∧ ∀ (d : Option Tmp) (x : AV), Zl P (σ.put d x) t n idx xs = some (σ'.put d x, r) := by
 obtain ⟨rfl, h2⟩ := Yp h
 exact ⟨yN.refl _ _, fun d x => h2 _⟩
theorem Sd {σ σ' : zK} {t : TypeId} {l c r : AV} {ps : List zn} (h : yM P σ t l c = some (ps, σ', r)) :
  yN m none σ σ' ∧ ∀ (d : Option Tmp) (x : AV), yM P (σ.put d x) t l c = some (ps, σ'.put d x, r) := by
 unfold yM at h ⊢
 repeat' split at h
 all_goals first | cases h | skip
 rename_i hc
 refine ⟨yN.add _ _, fun d x => ?_⟩
 simp only [xd, Xk, if_pos hc]
theorem RS {G : Cx} {σ σ' : zK} {f : FuncId} {xs : List AV} {r : AV} {ps : List zn} (h : Y1 G σ f xs = some (ps, σ', r)) :
  yN m none σ σ' ∧ ∀ d x, Y1 G (σ.put d x) f xs = some (ps, σ'.put d x, r) := by
 unfold Y1 at h ⊢
 split at h
 ·rename_i hf
  cases h
  exact ⟨yN.add _ _, fun d x => by simp only [xd, Xk]⟩
 ·cases h
theorem rH {G : Cx} {σ : zK} {d : Option Tmp} {x : AV} {f : FuncId} {xs : List AV} (h : Y1 G (σ.put d x) f xs = none) : Y1 G σ f xs = none := by
 unfold Y1 at h ⊢
 grind
theorem Pg {m : Option Nat} {x : AV} (h : ¬ ((x.hasOwn && !Sr m x) = true)) : x.hasOwn = false ∨ Sr m x = true := by
 grind
theorem Wu {σ σ' : zK} {t : TypeId} {s v r : AV} {ps : List zn} (hs : s.hasOwn = false ∨ Sr m s = true) (h : Yz P σ t s v = some (ps, σ', r)) :
  yN m none σ σ' ∧ ∀ (d : Option Tmp) (x : AV), Yz P (σ.put d x) t s v = some (ps, σ'.put d x, r) := by
 unfold Yz at h ⊢
 repeat' split at h
 all_goals first | cases h | skip
 ·refine ⟨yN.add _ _, fun d x => ?_⟩
  simp only [xd, Xk, ww]
  simp_all
 ·refine ⟨⟨rfl, Nat.le_refl _, fun k' _ => rfl, fun _ _ => rfl⟩, fun d x => ?_⟩
  simp only [ww]
  simp_all
 ·refine ⟨yN.add _ _, fun d x => ?_⟩
  simp only [xd, Xk, ww]
  simp_all
 ·rename_i k n _ _ _ _ _ _ hcc
  have hm : ∀ k', k' < Qb m σ.nb → k' ≠ k := by
   rcases hs with hs | hs
   ·cases hs
   ·cases m with
    | none => cases hs
    | some m' =>
     have h1 : m' ≤ k := Nat.le_of_ble_eq_true hs
     intro k' hk'
     have := mh (m := m') (n := σ.nb)
     omega
  refine ⟨⟨rfl, Nat.le_succ _, fun k' hk' => ?_, fun _ _ => rfl⟩, fun d x => ?_⟩
  ·show upd (upd σ.bl k .dead) σ.nb _ k' = _
   rw [zN _ _ (Nat.ne_of_lt (Nat.lt_of_lt_of_le hk' MD)), zN _ _ (hm k' hk')]
  ·simp only [Xk, ww]
   cases d <;> simp_all [zK.put]
def old (σ : zK) : Option Tmp → AV
 | some t => σ.tm t
 | none => .junk
theorem Py (σ : zK) (d : Option Tmp) (x : AV) : (σ.put d x).put d (old σ d) = σ := by
 cases d with
 | none => rfl
 | some d =>
  obtain ⟨n, tm, nb, bl⟩ := σ
  simp only [zK.put, old, zK.mk.injEq, true_and, and_true]
  funext t
  by_cases h : t = d
  ·subst h; rw [upd_same]
  ·rw [zN _ _ h, zN _ _ h]
theorem mW {f : zK → Option (zK × AV)} (hf : ∀ σ σ' r, f σ = some (σ', r) → yN m none σ σ' ∧ ∀ d x, f (σ.put d x) = some (σ'.put d x, r)) {σ σ1 : zK} {d : Option Tmp} {x r : AV}
  (h : f (σ.put d x) = some (σ1, r)) : ∃ σ', f σ = some (σ', r) ∧ yN m none σ σ' ∧ σ1 = σ'.put d x := by
 obtain ⟨h1, h2⟩ := hf _ _ _ h
 have h3 := h2 d (old σ d)
 rw [Py] at h3
 grind
theorem nJ {f : zK → Option (List zn × zK × AV)} (hf : ∀ σ ps σ' r, f σ = some (ps, σ', r) → yN m none σ σ' ∧ ∀ d x, f (σ.put d x) = some (ps, σ'.put d x, r)) {σ σ1 : zK} {d : Option Tmp} {x r : AV} {ps : List zn}
  (h : f (σ.put d x) = some (ps, σ1, r)) : ∃ σ', f σ = some (ps, σ', r) ∧ yN m none σ σ' ∧ σ1 = σ'.put d x := by
 obtain ⟨h1, h2⟩ := hf _ _ _ _ h
 have h3 := h2 d (old σ d)
 rw [Py] at h3
 grind
theorem Z3 {σ σ' : zK} {d d' : Option Tmp} {x y : AV} {K : zK → Prop} (h : yN m none σ σ') (hd : ∀ t, d = some t → d' ≠ some t) (hK : K ((σ'.put d x).put d' y)) :
  yN m d' σ (σ'.put d' y) ∧ K ((σ'.put d' y).put d x) := ⟨h.put d' y, by rw [put_comm hd] at hK; exact hK⟩
theorem OZ {σ : zK} {d : Option Tmp} {x : AV} {j : Nat} {want : Bool} (h : ∀ t, d = some t → (ops[j]?).bind (·.dst) ≠ some t) : YX ops (σ.put d x) j want = YX ops σ j want := by
 unfold YX
 cases ho : ops[j]? with
 | none => rfl
 | some o =>
  simp only
  cases hd : o.dst with
  | none => rfl
  | some t =>
   simp only
   cases d with
   | none => rfl
   | some d =>
    have hne : t ≠ d := fun e => h d rfl (by rw [ho, Option.bind_some, hd, e])
    simp only [zK.put, zN _ _ hne]
theorem uy {ex : TypeId → (AV → Prop) → Prop} (hex : ∀ t k k', (∀ r, k r → k' r) → ex t k → ex t k') : ∀ (ts : List TypeId) (k k' : List AV → Prop), (∀ r, k r → k' r) → Wx ex ts k → Wx ex ts k'
 | [], _, _, h, hk => h _ hk
 | _ :: ts, _, _, h, hk => hex _ _ _ (fun _ hv => uy hex ts _ _ (fun _ hr => h _ hr) hv) hk
theorem Tf : ∀ (n : Nat) (t : TypeId) (k k' : AV → Prop), (∀ r, k r → k' r) → uR P n t k → uR P n t k'
 | 0, _, _, _, h, ⟨r, hr⟩ => ⟨r, h _ hr⟩
 | n + 1, t, k, k', h, hk => by
  unfold uR at hk ⊢
  split at hk
  ·grind
  ·grind
  ·grind
  ·grind
  ·exact uy (Tf n) _ _ _ (fun r hr => h _ hr) hk
  grind
theorem zc {ps : List zn} {k k' : Prop} (h : k → k') (hp : Yj ps k) : Yj ps k' := by
 rw [ZO] at hp ⊢
 simp_all
theorem xX {g : Bool} {ps : List zn} {k k' : Prop} (h : k → k') (hp : R4 g ps k) : R4 g ps k' := by
 rw [yO] at hp ⊢
 simp_all
theorem uD {o : Oper} {d : Option Tmp} (h : ∀ t, d = some t → t ∉ o.looksAt ops.toArray) : ∀ x ∈ o.op.operands, ∀ t, x = .tmp t → d ≠ some t := fun x hx t hxt hd =>
 h t hd (List.mem_append_left _ (List.mem_filterMap.2 ⟨x, Array.mem_toList_iff.2 hx, by rw [hxt]⟩))
theorem uw {o : Oper} {d : Option Tmp} {j : Nat} {want : Bool} (h : ∀ t, d = some t → t ∉ o.looksAt ops.toArray) (hg : o.guard = some (j, want)) :
  ∀ t, d = some t → (ops[j]?).bind (·.dst) ≠ some t := fun t hd he =>
 h t hd (List.mem_append_right _ (by rw [hg]; simp only [List.getElem?_toArray]; rw [he]; simp))
theorem tR {g : Option Bool} {ps : List zn} {k k' : Prop} (h : k → k') (hp : NH g ps k) : NH g ps k' := by
 cases g with
 | none => exact zc h hp
 | some g => exact xX h hp
theorem Yq {P : Program} {G : Cx} {g : Option Bool} {f : FuncId} {xs : List AV} {t : TypeId} {K K' : AV → Prop} (h : ∀ r, K r → K' r) (hk : xf P G g f xs t K) : xf P G g f xs t K' := by
 unfold xf at hk ⊢
 split at hk
 ·exact tR (h _) hk
 ·exact Tf 3 _ _ _ (fun r hr => ⟨hr.1, h r hr.2⟩) hk
theorem wq {P : Program} {G : Cx} {g : Option Bool} {f : FuncId} {xs : List AV} {t : TypeId} {K K' : AV → Prop} (h : ∀ r, K r → K' r) (hk : wL P G g f xs t K) : wL P G g f xs t K' := by
 unfold wL at hk ⊢
 split at hk
 ·grind
 ·exact Yq h hk
theorem YP {σ σ' : zK} {l : List Operand} (h : ∀ x ∈ l, σ'.ev x = σ.ev x) : Zc σ' l = Zc σ l := by
 unfold Zc
 rw [List.flatMap_def, List.flatMap_def]
 congr 1
 simp_all
theorem YQ {σ σ' : zK} {x : Operand} (h : σ'.ev x = σ.ev x) : σ'.sv x = σ.sv x := by unfold zK.sv; rw [h]
theorem re {σ : zK} {o : Oper} {d : Option Tmp} {x : AV} {f : FuncId} {xs : List AV} {K : zK → Prop} (h2 : ∀ t, d = some t → o.dst ≠ some t) (h : XN P G (σ.put d x) o f xs K) :
  XN P G σ o f xs fun σ' => yN m o.dst σ σ' ∧ K (σ'.put d x) := by
 unfold XN at h ⊢
 simp only [ww, Xk, xd] at h
 split at h
 ·exact h.elim
 ·split at h
  ·exact Yq (fun r hk => Z3 (yN.refl none σ) h2 hk) h
  omega
theorem SH {σ : zK} {o : Oper} {f : FuncId} {xs : List AV} {K K' : zK → Prop} (hk : ∀ σ, K σ → K' σ) (h : XN P G σ o f xs K) : XN P G σ o f xs K' := by
 unfold XN at h ⊢
 split at h
 ·exact h.elim
 ·split at h
  ·exact Yq (fun r h => hk _ h) h
  omega
theorem NX {σ : zK} {o : Oper} {d : Option Tmp} {x : AV} {K : zK → Prop} (h1 : ∀ x ∈ o.op.operands, ∀ t, x = .tmp t → d ≠ some t) (h2 : ∀ t, d = some t → o.dst ≠ some t)
  (h : Vm P G m (σ.put d x) o K) : Vm P G m σ o fun σ' => yN m o.dst σ σ' ∧ K (σ'.put d x) := by
 have hev : ∀ y ∈ o.op.operands, (σ.put d x).ev y = σ.ev y := fun y hy => mG (h1 y hy)
 have hsv : ∀ y ∈ o.op.operands, (σ.put d x).sv y = σ.sv y := fun y hy => YQ (hev y hy)
 have gr : ∀ r, K ((σ.put d x).put o.dst r) → yN m o.dst σ (σ.put o.dst r) ∧ K ((σ.put o.dst r).put d x) := fun r hk => Z3 (yN.refl none σ) h2 hk
 unfold Vm at h ⊢
 split at h
 ·rename_i e ho
  simp only
  split at h
  ·rename_i σ1 r he
   obtain ⟨σ', g1, g2, rfl⟩ := mW (f := fun σ => xP P σ e) (fun _ _ _ h => tC h) he
   simp only [g1]
   exact Z3 g2 h2 h
  ·exact h.elim
 ·rename_i t y ho
  have e1 := hev y (by rw [ho]; simp [Op.operands])
  have e2 := hsv y (by rw [ho]; simp [Op.operands])
  simp only [e1, e2] at h
  simp only
  split at h
  ·rename_i σ1 r he
   obtain ⟨σ', g1, g2, rfl⟩ := mW (f := fun s => wg s t (σ.sv y)) (fun _ _ _ h => Rs h) he
   simp only [g1]
   exact zc (Z3 g2 h2) h
  ·exact h.elim
 ·exact h.elim
 ·rename_i t n parts ho
  have hin : ∀ p ∈ parts.toList, p.2 ∈ o.op.operands := fun p hp => by rw [ho]; simp only [Op.operands, List.mem_toArray, List.mem_map]; exact ⟨p, hp, rfl⟩
  have e1 : (parts.toList.map fun p => (σ.put d x).sv p.2) = parts.toList.map fun p => σ.sv p.2 := List.map_congr_left fun p hp => hsv _ (hin p hp)
  have e2 : Zc (σ.put d x) (parts.toList.map (·.2)) = Zc σ (parts.toList.map (·.2)) := YP fun y hy => by
   obtain ⟨p, hp, rfl⟩ := List.mem_map.1 hy
   exact hev _ (hin p hp)
  simp only [e1, e2] at h
  simp only
  split at h
  ·exact h.elim
  ·rename_i hno
   rw [if_neg hno]
   split at h
   ·rename_i σ1 r he
    obtain ⟨σ', g1, g2, rfl⟩ := mW (f := fun s => Zl P s t n (parts.toList.map fun p : Nat × Operand => p.1) (parts.toList.map fun p : Nat × Operand => σ.sv p.2)) (fun _ _ _ h => tB h) he
    simp only [g1]
    exact zc (Z3 g2 h2) h
   ·exact h.elim
 ·rename_i t l c ho
  have e1 := hev l (by rw [ho]; simp [Op.operands])
  have e2 := hev c (by rw [ho]; simp [Op.operands])
  simp only [e1, e2, YQ e1, YQ e2] at h
  simp only
  split at h
  ·rename_i ps σ1 r he
   obtain ⟨σ', g1, g2, rfl⟩ := nJ (f := fun s => yM P s t (σ.sv l) (σ.sv c)) (fun _ _ _ _ h => Sd h) he
   simp only [g1]
   exact zc (Z3 g2 h2) h
  ·exact h.elim
 ·rename_i f args ts ho
  have e1 := hev f (by rw [ho]; simp [Op.operands, Call.operands])
  have hin : ∀ y ∈ args.toList, y ∈ o.op.operands := fun y hy => by rw [ho]; simp only [Op.operands, Call.operands, Array.mem_append]; exact .inr (Array.mem_toList_iff.1 hy)
  have e2 : args.toList.map (σ.put d x).sv = args.toList.map σ.sv := List.map_congr_left fun y hy => hsv _ (hin y hy)
  have e3 : Zc (σ.put d x) args.toList = Zc σ args.toList := YP fun y hy => hev _ (hin y hy)
  simp only [e1, e2, e3, YQ e1] at h
  simp only
  split at h
  ·refine zc (fun h => ?_) h
   split at h
   ·rename_i hown
    rw [if_pos hown]
    exact re h2 h
   ·rename_i hno
    rw [if_neg hno]
    split at h
    ·rename_i ps σ1 r he
     obtain ⟨σ', g1, g2, rfl⟩ := nJ (f := fun u => Y1 G u _ _) (fun _ _ _ _ h => RS h) he
     simp only [g1]
     exact zc (Z3 g2 h2) h
    ·rename_i he
     rw [rH he]
     exact wq gr h
  ·exact h.elim
 ·rename_i args ts ho
  have hin : ∀ y ∈ args.toList, y ∈ o.op.operands := fun y hy => by rw [ho]; simp only [Op.operands, Call.operands, Array.mem_append]; exact .inr (Array.mem_toList_iff.1 hy)
  simp only
  split at h
  ·rename_i s y t t' ha ht
   have e1 := hev s (hin s (by rw [ha]; simp))
   have e2 := hev y (hin y (by rw [ha]; simp))
   simp only [e1, e2, YQ e1, YQ e2] at h
   split at h
   ·rename_i htt
    rw [if_pos htt]
    split at h
    ·exact h.elim
    ·rename_i hno
     rw [if_neg hno]
     split at h
     ·rename_i ps σ1 r he
      obtain ⟨σ', g1, g2, rfl⟩ := nJ (f := fun u => Yz P u t (σ.sv s) (σ.sv y)) (fun _ _ _ _ h => Wu (Pg hno) h) he
      simp only [g1]
      exact zc (Z3 g2 h2) h
     ·rename_i he0
      have e0 : Yz P σ t (σ.sv s) (σ.sv y) = none := by
       cases h0 : Yz P σ t (σ.sv s) (σ.sv y) with
       | none => rfl
       | some q =>
        obtain ⟨ps, σ1, r⟩ := q
        rw [(Wu (Pg hno) h0).2 d x] at he0
        cases he0
      exact h.elim
   ·exact h.elim
  ·exact h.elim
 ·have e : ye P G.objs (σ.put d x).bl (σ.put d x).ev o.op = ye P G.objs σ.bl σ.ev o.op := Vb hev fun _ _ _ _ => by rw [ww]
  rw [e] at h
  split at h
  ·rename_i ps r he
   exact zc (gr r) h
  ·exact h.elim
theorem K1 {g : Bool} {σ : zK} {o : Oper} {d : Option Tmp} {x : AV} {K : zK → Prop} (h1 : ∀ x ∈ o.op.operands, ∀ t, x = .tmp t → d ≠ some t) (h2 : ∀ t, d = some t → o.dst ≠ some t)
  (h : se P G g (σ.put d x) o K) : se P G g σ o fun σ' => yN m o.dst σ σ' ∧ K (σ'.put d x) := by
 have hev : ∀ y ∈ o.op.operands, (σ.put d x).ev y = σ.ev y := fun y hy => mG (h1 y hy)
 have hsv : ∀ y ∈ o.op.operands, (σ.put d x).sv y = σ.sv y := fun y hy => YQ (hev y hy)
 have gr : ∀ r, K ((σ.put d x).put o.dst r) → yN m o.dst σ (σ.put o.dst r) ∧ K ((σ.put o.dst r).put d x) := fun r hk => Z3 (yN.refl none σ) h2 hk
 unfold se at h ⊢
 split at h
 ·rename_i f args ts ho
  have e1 := hev f (by rw [ho]; simp [Op.operands, Call.operands])
  have hin : ∀ y ∈ args.toList, y ∈ o.op.operands := fun y hy => by rw [ho]; simp only [Op.operands, Call.operands, Array.mem_append]; exact .inr (Array.mem_toList_iff.1 hy)
  have e2 : args.toList.map (σ.put d x).sv = args.toList.map σ.sv := List.map_congr_left fun y hy => hsv _ (hin y hy)
  have e3 : Zc (σ.put d x) args.toList = Zc σ args.toList := YP fun y hy => hev _ (hin y hy)
  simp only [e1, e2, e3, YQ e1, ww] at h
  simp only
  split at h
  ·refine xX (fun h => ?_) h
   split at h
   ·rename_i hno
    rw [if_pos hno]
    split at h
    ·split at h
     ·exact gr _ h
     ·exact h.elim
    ·split at h
     ·rename_i hs
      rw [if_pos hs]
      exact Yq (fun r hr => gr _ hr) h
     ·exact h.elim
   ·rename_i hno
    rw [if_neg hno]
    exact wq (fun r hr => gr _ hr) h
  ·exact h.elim
 ·rename_i tb lb parts ho
  have hin : ∀ p ∈ parts.toList, p.2 ∈ o.op.operands := fun p hp => by rw [ho]; simp only [Op.operands, List.mem_toArray, List.mem_map]; exact ⟨p, hp, rfl⟩
  have e1 : (parts.toList.map fun p => (σ.put d x).sv p.2) = parts.toList.map fun p => σ.sv p.2 := List.map_congr_left fun p hp => hsv _ (hin p hp)
  have e2 : Zc (σ.put d x) (parts.toList.map (·.2)) = Zc σ (parts.toList.map (·.2)) := YP fun y hy => by
   obtain ⟨p, hp, rfl⟩ := List.mem_map.1 hy
   exact hev _ (hin p hp)
  rw [e1, e2] at h
  split at h
  ·exact h.elim
  ·rename_i hno
   rw [if_neg hno]
   split at h
   ·rename_i σ1 r he
    rw [(Yp he).2 σ]
    exact xX (gr _) h
   ·exact h.elim
 ·have e : ye P G.objs (σ.put d x).bl (σ.put d x).ev o.op = ye P G.objs σ.bl σ.ev o.op := Vb hev fun _ _ _ _ => by rw [ww]
  rw [e] at h
  split at h
  ·exact xX (gr _) h
  ·exact h.elim
theorem O8 {σ : zK} {o : Oper} {d : Option Tmp} {x : AV} {K : zK → Prop} (h1 : ∀ t, d = some t → t ∉ o.looksAt ops.toArray) (h2 : ∀ t, d = some t → o.dst ≠ some t)
  (h : Xn P G m ops o (σ.put d x) K) : Xn P G m ops o σ fun σ' => yN m o.dst σ σ' ∧ K (σ'.put d x) := by
 unfold Xn at h ⊢
 split at h
 ·exact NX (uD h1) h2 h
 ·rename_i j want hg
  rw [OZ (uw h1 hg)] at h
  split at h
  ·rename_i g _
   cases hc : G.conc && !g with
   | true =>
    rw [hc] at h
    exact Z3 (yN.refl none σ) h2 h
   | false =>
    rw [hc] at h
    exact K1 (uD h1) h2 h
  omega
theorem P9 {σ : zK} {o : Oper} {K K' : zK → Prop} (hk : ∀ σ, K σ → K' σ) (h : Vm P G m σ o K) : Vm P G m σ o K' := by
 unfold Vm at h ⊢
 split at h
 ·grind
 ·split at h
  ·exact zc (hk _) h
  ·exact h
 ·exact h
 ·split at h
  ·exact h.elim
  ·rename_i hno
   rw [if_neg hno]
   split at h
   ·exact zc (hk _) h
   ·exact h
 ·split at h
  ·exact zc (hk _) h
  ·exact h
 ·split at h
  ·refine zc (fun h => ?_) h
   split at h
   ·rename_i hown
    rw [if_pos hown]
    exact SH hk h
   ·rename_i hno
    rw [if_neg hno]
    split at h
    ·exact zc (hk _) h
    ·exact wq (fun r hr => hk _ hr) h
  ·exact h
 ·split at h
  ·split at h
   ·rename_i htt
    rw [if_pos htt]
    split at h
    ·exact h.elim
    ·rename_i hno
     rw [if_neg hno]
     split at h
     ·exact zc (hk _) h
     ·exact h
   simp_all
  ·exact h
 ·split at h
  ·exact zc (hk _) h
  ·exact h
theorem v6 {g : Bool} {σ : zK} {o : Oper} {K K' : zK → Prop} (hk : ∀ σ, K σ → K' σ) (h : se P G g σ o K) : se P G g σ o K' := by
 unfold se at h ⊢
 split at h
 ·split at h
  ·refine xX (fun h => ?_) h
   split at h
   ·rename_i hno
    rw [if_pos hno]
    split at h
    ·grind
    ·split at h
     ·rename_i hs
      rw [if_pos hs]
      exact Yq (fun r hr => hk _ hr) h
     simp_all
   ·rename_i hno
    rw [if_neg hno]
    exact wq (fun r hr => hk _ hr) h
  ·exact h
 ·split at h
  ·exact h.elim
  ·rename_i hno
   rw [if_neg hno]
   split at h
   ·exact xX (hk _) h
   ·exact h
 ·split at h
  ·exact xX (hk _) h
  ·exact h
theorem vZ {σ : zK} {o : Oper} {K K' : zK → Prop} (hk : ∀ σ, K σ → K' σ) (h : Xn P G m ops o σ K) : Xn P G m ops o σ K' := by
 unfold Xn at h ⊢
 split at h
 ·exact P9 hk h
 ·split at h
  ·rename_i g _
   cases hc : G.conc && !g with
   | true => simp_all
   | false => rw [hc] at h; exact v6 hk h
  ·exact h
theorem Ty {σ : zK} {xs : List AV} (h : ¬ (xs.any AV.hasOwn) = true) : Yb σ xs = some (σ, xs) := by unfold Yb; rw [if_neg h]
theorem mo {σ : zK} {o : Oper} {K : zK → Prop} (h : Vm P G m σ o K) : K8 P G σ o K := by
 unfold Vm at h
 unfold K8
 split at h
 ·grind
 ·grind
 ·exact h.elim
 ·rename_i ho
  simp only [ho]
  split at h
  ·exact h.elim
  ·rename_i hno
   rw [S8 hno, Ty fun h => hno (by rw [h]; rfl)]
   exact h
 ·grind
 ·rename_i ho
  simp only [ho]
  split at h
  ·rename_i hf
   simp only [hf]
   refine zc (fun h => ?_) h
   split at h
   ·rename_i hown
    unfold Wt
    rw [if_pos hown]
    unfold XN at h
    split at h
    ·exact h.elim
    ·rename_i ho0
     rw [ho0]
     simp only
     split at h
     ·simp_all
     ·exact h.elim
   ·rename_i hno
    unfold Wt
    rw [if_neg hno]
    split at h
    ·simp_all
    rename_i he
    rw [he]
    unfold wL at h
    split at h
    ·exact h.elim
    ·exact h
  ·exact h.elim
 ·rename_i ho
  simp only [ho]
  split at h
  ·rename_i ha ht
   simp only [ha, ht]
   split at h
   ·split at h
    ·exact h.elim
    grind
   ·exact h.elim
  simp_all
 grind
theorem oW {g : Bool} {σ : zK} {o : Oper} {K : zK → Prop} (h : se P G g σ o K) : S9 P G g σ o K := by
 unfold S9
 split
 ·rename_i ho
  split
  ·rename_i hf
   split
   ·rename_i hi
    unfold se at h
    simp only [ho, hf, yO] at h
    obtain ⟨h1, h2⟩ := h
    unfold wL at h2
    rw [hi] at h2
    cases g with
    | true => split at h2 <;> exact h2.elim
    | false => split at h2 <;> exact h2
   ·exact h
  ·rename_i hf
   unfold se at h
   simp only [ho, hf] at h
   exact h.elim
  ·exact h
 ·exact h
theorem Ti {σ : zK} {o : Oper} {K : zK → Prop} (h : Xn P G m ops o σ K) : tc P G ops o σ K := by
 unfold Xn at h
 unfold tc
 cases hg : o.guard with
 | none => rw [hg] at h; exact mo h
 | some jw =>
  rw [hg] at h
  simp only at h ⊢
  split at h
  ·rename_i g hga
   simp only [hga]
   cases hc : G.conc && !g with
   | true => simp_all
   | false => rw [hc] at h; exact oW h
  simp_all
end
end Go.Sx
