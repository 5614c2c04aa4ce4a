/- Regions whose operations come in any order: what only computes or reads may be taken first. -/
import Derived.Test.YthbpnknhfokadaaGreatDoorSxK
set_option linter.unusedSimpArgs false
set_option linter.unusedVariables false
namespace Go.Sx
open Go Go.RowKit
def AV.top : AV → Option Nat
 | .np k _ | .ns k _ _ | .ap k _ _ | .ps k _ => some k
 | _ => none
section
variable {P : Program} {bl bl' : Nat → OB}
theorem Sn {sh : Option Nat} {x : AV} (h : ∀ k, x.top = some k → bl' k = bl k) : Y8 bl' sh x = Y8 bl sh x := by
 cases x <;> simp only [Y8] <;> rw [h _ rfl]
theorem RQ {x : AV} (h : ∀ k, x.top = some k → bl' k = bl k) : WZ bl' x = WZ bl x := by
 cases x <;> simp only [WZ] <;> first | rw [h _ rfl] | (split <;> first | rfl | (rename_i e; cases e) | simp_all)
theorem RL {P : Program} {bl bl' : Nat → OB} {s d : TypeId} {x : AV} (h : ∀ k, x.top = some k → bl' k = bl k) : TF P bl' s d x = TF P bl s d x := by
 have e : Uz bl' 1 x = Uz bl 1 x := by
  cases x <;> first | rfl | skip
  rename_i k off m
  unfold Uz
  simp only [h k rfl]
 unfold TF
 rw [e]
theorem rC {x : AV} {d : Nat} (h : ∀ k, x.top = some k → bl' k = bl k) : x.shift bl' d = x.shift bl d := by
 cases x <;> simp only [AV.shift] <;> rw [h _ rfl]
theorem uu {t : TypeId} {x ix : AV} (h : ∀ k, x.top = some k → bl' k = bl k) : Yf P bl' t x ix = Yf P bl t x ix := by
 unfold Yf
 split
 ·split
  ·cases x with
   | ns k off len => have e := h k rfl; cases P.info? _ <;> simp only [e]
   | ps k len => have e := h k rfl; cases P.info? _ <;> simp only [e]
   | _ => cases P.info? _ <;> rfl
  ·cases x with
   | ap k i j => have e := h k rfl; cases P.info? _ <;> cases j <;> simp only [e]
   | np k off => have e := h k rfl; cases P.info? _ <;> simp only [e]
   | _ => cases P.info? _ <;> rfl
  ·rfl
 ·rfl
theorem qV {t : TypeId} {x : AV} {lo hi mx : Option AV} (h : ∀ k, x.top = some k → bl' k = bl k) : WJ P bl' t x lo hi mx = WJ P bl t x lo hi mx := by
 unfold WJ
 rcases P.underlying t with _ | u
 ·rfl
 ·cases u with
  | string =>
   grind
  | slice e =>
   cases x with
   | ns k off len =>
    have e := h k rfl
    grind
   | xl => grind
   | _ => rfl
  | _ => rfl
theorem OL {t : TypeId} {x : AV} (h : ∀ k, x.top = some k → bl' k = bl k) : Tr P bl' t x = Tr P bl t x := by
 unfold Tr
 rcases P.underlying t with _ | u
 ·rfl
 ·cases x with
  | ns k off len =>
   have e := h k rfl
   grind
  | v x => grind
  | _ => cases u <;> rfl
theorem mz {b : Builtin} {ts : List TypeId} {xs : List AV} (h : ∀ x ∈ xs, ∀ k, x.top = some k → bl' k = bl k) : pz P bl' b ts xs = pz P bl b ts xs := by
 unfold pz
 split <;> first | rfl | exact OL (h _ (by simp))
theorem sM {x : AV} (h : ∀ k, x.top = some k → bl' k = bl k) : vR bl' x = vR bl x := by
 unfold vR
 cases x with
 | ns k off len => simp only [h k rfl]
 | _ => rfl
theorem pO {op : BinOp} {t : TypeId} {x y : AV} (h1 : ∀ k, x.top = some k → bl' k = bl k) (h2 : ∀ k, y.top = some k → bl' k = bl k) : OD P bl' op t x y = OD P bl op t x y := by
 unfold OD rz
 rw [sM h1]
 cases y with
 | np k' o' => simp only [h2 k' rfl]
 | v u =>
  grind
 | _ => rfl
theorem VQ {ob : List (Nat × Obj)} {ev ev' : Operand → AV} {o : Op} (he : ∀ x ∈ o.operands, ev' x = ev x) (hb : ∀ x ∈ o.operands, ∀ k, (ev x).strip.top = some k → bl' k = bl k) :
  yd P ob bl' ev' o = yd P ob bl ev o := by
 have hg : ((Yk o).flatMap fun x => (ev' x).gprop) = (Yk o).flatMap fun x => (ev x).gprop := by
  rw [List.flatMap_def, List.flatMap_def]
  congr 1
  refine List.map_congr_left fun x hx => ?_
  rw [he x]
  cases o <;> first | exact Array.mem_toList_iff.1 hx | cases hx
 have hr : Zj P ob bl' ev' (fun x => (ev' x).strip) o = Zj P ob bl ev (fun x => (ev x).strip) o := by
  have hm : ∀ l : List Operand, (∀ x ∈ l, x ∈ o.operands) → l.map (fun x => (ev' x).strip) = l.map fun x => (ev x).strip := fun l hl => List.map_congr_left fun x hx => by rw [he x (hl x hx)]
  have ho : ∀ l : Option Operand, (∀ x, l = some x → x ∈ o.operands) → l.map (fun x => (ev' x).strip) = l.map fun x => (ev x).strip := fun l hl => by
   cases l with
   | none => rfl
   | some x => simp only [Option.map_some, he x (hl x rfl)]
  cases o with
  | move x => simp only [Zj, he x (by simp [Op.operands])]
  | assign x => simp only [Zj, he x (by simp [Op.operands])]
  | pick c a b => simp only [Zj, he c (by simp [Op.operands]), he a (by simp [Op.operands]), he b (by simp [Op.operands])]
  | load t x =>
   have h := hb x (by simp [Op.operands])
   simp only [Zj, he x (by simp [Op.operands]), Sn h]
  | nilCheck x =>
   have h := hb x (by simp [Op.operands])
   simp only [Zj, he x (by simp [Op.operands]), RQ h]
  | binOp op t x y t' =>
   have h1 := hb x (by simp [Op.operands])
   have h2 := hb y (by simp [Op.operands])
   simp only [Zj, he x (by simp [Op.operands]), he y (by simp [Op.operands]), pO h1 h2]
  | build t parts =>
   have : (parts.toList.map fun p => (p.1, (ev' p.2).strip)) = parts.toList.map fun p => (p.1, (ev p.2).strip) := List.map_congr_left fun p hp => by
    rw [he p.2 (by simp only [Op.operands, List.mem_toArray, List.mem_map]; exact ⟨p, hp, rfl⟩)]
   simp only [Zj, this]
  | unOp op t x => simp only [Zj, he x (by simp [Op.operands])]
  | convert s d x =>
   have h := hb x (by simp [Op.operands])
   simp only [Zj, he x (by simp [Op.operands]), RL h]
  | makeFunc f a b =>
   simp only [Zj, hm a.toList fun x hx => by simp only [Op.operands, Array.mem_append]; exact .inl (Array.mem_toList_iff.1 hx),
    hm b.toList fun x hx => by simp only [Op.operands, Array.mem_append]; exact .inr (Array.mem_toList_iff.1 hx)]
  | slice t x a b c =>
   have h := hb x (by simp [Op.operands])
   simp only [Zj, he x (by simp [Op.operands]), qV h, ho a fun x hx => by simp [Op.operands, hx], ho b fun x hx => by simp [Op.operands, hx],
    ho c fun x hx => by simp [Op.operands, hx]]
  | fieldAddr t x f =>
   have h := hb x (by simp [Op.operands])
   simp only [Zj, he x (by simp [Op.operands]), rC h]
  | field t x f => simp only [Zj, he x (by simp [Op.operands])]
  | indexAddr t x i =>
   have h := hb x (by simp [Op.operands])
   simp only [Zj, he x (by simp [Op.operands]), he i (by simp [Op.operands]), uu h]
  | index t x i => simp only [Zj, he x (by simp [Op.operands]), he i (by simp [Op.operands])]
  | extract x i => simp only [Zj, he x (by simp [Op.operands])]
  | call c =>
   obtain ⟨cal, args, ts⟩ := c
   cases cal with
   | builtin b =>
    have hin : ∀ x ∈ args.toList, x ∈ (Op.call ⟨.builtin b, args, ts⟩).operands := fun x hx => by simpa [Op.operands, Call.operands] using hx
    simp only [Zj, hm _ hin]
    rw [mz]
    intro x hx k hk
    obtain ⟨y, hy, rfl⟩ := List.mem_map.1 hx
    exact hb y (hin y hy) k hk
   | _ => rfl
  | _ => rfl
 unfold yd
 rw [hr, hg]
end
def QU : Option Nat → Nat → Nat
 | none, n => n
 | some m, n => bif Nat.ble m n then m else n
theorem SA (m n : Nat) : QU (some m) n = if m ≤ n then m else n := by
 show (bif Nat.ble m n then m else n) = _
 simp
theorem Ma {m : Option Nat} {n : Nat} : QU m n ≤ n := by
 cases m with
 | none => exact Nat.le_refl _
 | some m => rw [SA]; split <;> omega
theorem N3 {m n : Nat} : QU (some m) n ≤ m := by rw [SA]; split <;> omega
theorem NW {m : Option Nat} {n n' : Nat} (h : n ≤ n') : QU m n ≤ QU m n' := by
 cases m with
 | none => exact h
 | some m => rw [SA, SA]; split <;> split <;> omega
structure yk (m : Option Nat) (d : Option Tmp) (σ σ' : zJ) : Prop where
 n : σ'.n = σ.n
 nb : σ.nb ≤ σ'.nb
 bl : ∀ k, k < QU m σ.nb → σ'.bl k = σ.bl k
 tm : ∀ t, d ≠ some t → σ'.tm t = σ.tm t
theorem yk.refl {m : Option Nat} (d : Option Tmp) (σ : zJ) : yk m d σ σ := ⟨rfl, Nat.le_refl _, fun _ _ => rfl, fun _ _ => rfl⟩
theorem yk.put {m : Option Nat} {σ σ' : zJ} (h : yk m none σ σ') (d : Option Tmp) (x : AV) : yk m d σ (σ'.put d x) := by
 cases d with
 | none => exact h
 | some d => exact ⟨h.n, h.nb, h.bl, fun t ht => (zM _ _ fun e => ht (by rw [e])).trans (h.tm t (by simp))⟩
theorem yk.add {m : Option Nat} (σ : zJ) (B : OB) : yk m none σ (σ.add B) :=
 ⟨rfl, Nat.le_succ _, fun _ hk => zM _ _ (Nat.ne_of_lt (Nat.lt_of_lt_of_le hk Ma)), fun _ _ => rfl⟩
theorem Xk (σ : zJ) (d : Option Tmp) (x : AV) : (σ.put d x).nb = σ.nb := by cases d <;> rfl
theorem wy (σ : zJ) (d : Option Tmp) (x : AV) : (σ.put d x).bl = σ.bl := by cases d <;> rfl
theorem xC (σ : zJ) (d : Option Tmp) (x : AV) (B : OB) : (σ.put d x).add B = (σ.add B).put d x := by cases d <;> rfl
theorem put_comm {σ : zJ} {d d' : Option Tmp} {x y : AV} (h : ∀ t, d = some t → d' ≠ some t) : (σ.put d x).put d' y = (σ.put d' y).put d x := by
 cases d with
 | none => rfl
 | some d => cases d' with
  | none => rfl
  | some d' =>
   simp only [zJ.put, zJ.mk.injEq, true_and, and_true]
   funext t
   by_cases h1 : t = d'
   ·subst h1
    rw [upd_same, zM _ _ (fun e => h d rfl (by rw [e])), upd_same]
   ·rw [zM _ _ h1]
    by_cases h2 : t = d
    ·subst h2; rw [upd_same, upd_same]
    ·rw [zM _ _ h2, zM _ _ h2, zM _ _ h1]
theorem yk.ev {m : Option Nat} {σ σ' : zJ} {d : Option Tmp} (h : yk m d σ σ') {x : Operand} (hx : ∀ t, x = .tmp t → d ≠ some t) : σ'.ev x = σ.ev x := by
 cases x with
 | tmp t => simp only [zJ.ev, h.n, h.tm t (hx t rfl)]
 | _ => rfl
theorem M0 {σ : zJ} {d : Option Tmp} {v : AV} {x : Operand} (hx : ∀ t, x = .tmp t → d ≠ some t) : (σ.put d v).ev x = σ.ev x := ((yk.refl (m := none) none σ).put d v).ev hx
def Ss : Option Nat → AV → Bool
 | some m, .ns k _ _ => Nat.ble m k
 | _, _ => false
def XL (P : Program) (G : Cx) (σ : zJ) (o : Oper) (f : FuncId) (xs : List AV) (k : zJ → Prop) : Prop :=
 match G.own f with
 | some _ => ZD o
 | none =>
  match Wy P G f (xs.map (lend σ.bl)) o.type with
  | true => xe P G none f (xs.map (lend σ.bl)) o.type fun r => k (σ.put o.dst r)
  | false => ZD o
def Vq (P : Program) (G : Cx) (m : Option Nat) (σ : zJ) (o : Oper) (k : zJ → Prop) : Prop :=
 match o.op with
 | .alloc elem =>
  match xJ P σ elem with
  | some (σ', r) => k (σ'.put o.dst r)
  | none => ZD o
 | .box t x =>
  match WR σ t (σ.sv x) with
  | some (σ', r) => YL (σ.ev x).gprop (k (σ'.put o.dst r))
  | none => ZD o
 | .store _ _ _ => ZD o
 | .buildSlice t len parts =>
  if ((parts.toList.map fun p => σ.sv p.2).any AV.hasOwn || Vt (parts.toList.map (·.2))) = true then ZD o
  else
   match ZK P σ t len (parts.toList.map (·.1)) (parts.toList.map fun p => σ.sv p.2) with
   | some (σ', r) => YL (Zb σ (parts.toList.map (·.2))) (k (σ'.put o.dst r))
   | none => ZD o
 | .makeSlice t l c =>
  match yn P σ t (σ.sv l) (σ.sv c) with
  | some (ps, σ', r) => YL ((σ.ev l).gprop ++ (σ.ev c).gprop ++ ps) (k (σ'.put o.dst r))
  | none => ZD o
 | .call { callee := .value f, args, .. } =>
  match σ.sv f with
  | .fn (.func fid) nf first nc cap =>
   YL ((σ.ev f).gprop ++ Zb σ args.toList) <|
    if (yA nf first (args.toList.map σ.sv) nc cap).any AV.hasOwn then XL P G σ o fid (yA nf first (args.toList.map σ.sv) nc cap) k
    else
     match YA G σ fid (yA nf first (args.toList.map σ.sv) nc cap) with
     | some (ps, σ', r) => YL ps (k (σ'.put o.dst r))
     | none => wj P G none fid (yA nf first (args.toList.map σ.sv) nc cap) o.type fun r => k (σ.put o.dst r)
  | _ => ZD o
 | .call { callee := .builtin .append, args, argTypes } =>
  match args.toList, argTypes.toList with
  | [s, x], [t, t'] =>
   if t = t' then
    if ((σ.sv s).hasOwn && !Ss m (σ.sv s)) = true then ZD o
    else
     match Yz P σ t (σ.sv s) (σ.sv x) with
     | some (ps, σ', r) => YL ((σ.ev s).gprop ++ (σ.ev x).gprop ++ ps) (k (σ'.put o.dst r))
     | none => ZD o
   else ZD o
  | _, _ => ZD o
 | op =>
  match yd P G.objs σ.bl σ.ev op with
  | some (ps, r) => YL ps (k (σ.put o.dst r))
  | none => ZD o
def XM (P : Program) (G : Cx) (m : Option Nat) (ops : List Oper) (o : Oper) (σ : zJ) (k : zJ → Prop) : Prop :=
 match o.guard with
 | none => Vq P G m σ o k
 | some (j, want) =>
  match YX ops σ j want with
  | some g =>
   match G.conc && !g with
   | true => k (σ.put o.dst (.gd false (tU P o.type)))
   | false => sf P G g σ o k
  | none => ZD o
end Go.Sx

namespace Go.Sx
open Go Go.RowKit
section
variable {P : Program} {G : Cx} {m : Option Nat} {ops : List Oper}
theorem tA {σ σ' : zJ} {e : TypeId} {r : AV} (h : xJ P σ e = some (σ', r)) : yk m none σ σ' ∧ ∀ (d : Option Tmp) (x : AV), xJ P (σ.put d x) e = some (σ'.put d x, r) := by
 unfold xJ at h ⊢
 repeat' split at h
 all_goals first | cases h | skip
 ·rename_i hc
  refine ⟨yk.add _ _, fun d x => ?_⟩
  simp only [xC, Xk, if_pos hc]
 ·rename_i hn hc
  refine ⟨yk.add _ _, fun d x => ?_⟩
  simp only [xC, Xk, if_neg hn, if_pos hc]
 ·rename_i hc
  refine ⟨yk.add _ _, fun d x => ?_⟩
  simp only [xC, Xk, if_pos hc]
theorem R8 {σ σ' : zJ} {t : TypeId} {v r : AV} (h : WR σ t v = some (σ', r)) : yk m none σ σ' ∧ ∀ (d : Option Tmp) (x : AV), WR (σ.put d x) t v = some (σ'.put d x, r) := by
 unfold WR at h ⊢
 split at h
 ·rename_i n cs hc
  cases h
  exact ⟨yk.add _ _, fun d x => by simp only [wy, Xk, xC, hc]⟩
 ·cases h
theorem tB {σ σ' : zJ} {t : TypeId} {n : Nat} {idx : List Nat} {xs : List AV} {r : AV} (h : ZK P σ t n idx xs = some (σ', r)) :
  yk m none σ σ' ∧ ∀ (d : Option Tmp) (x : AV), ZK P (σ.put d x) t n idx xs = some (σ'.put d x, r) := by
 obtain ⟨rfl, h2⟩ := Yp h
 exact ⟨yk.refl _ _, fun d x => h2 _⟩
theorem SY {σ σ' : zJ} {t : TypeId} {l c r : AV} {ps : List zN} (h : yn P σ t l c = some (ps, σ', r)) :
  yk m none σ σ' ∧ ∀ (d : Option Tmp) (x : AV), yn P (σ.put d x) t l c = some (ps, σ'.put d x, r) := by
 unfold yn at h ⊢
 repeat' split at h
 all_goals first | cases h | skip
 rename_i hc
 refine ⟨yk.add _ _, fun d x => ?_⟩
 simp only [xC, Xk, if_pos hc]
theorem rE {G : Cx} {σ σ' : zJ} {f : FuncId} {xs : List AV} {r : AV} {ps : List zN} (h : YA G σ f xs = some (ps, σ', r)) :
  yk m none σ σ' ∧ ∀ d x, YA G (σ.put d x) f xs = some (ps, σ'.put d x, r) := by
 unfold YA at h ⊢
 split at h
 ·rename_i hf
  cases h
  exact ⟨yk.add _ _, fun d x => by simp only [xC, Xk]⟩
 ·cases h
theorem qw {G : Cx} {σ : zJ} {d : Option Tmp} {x : AV} {f : FuncId} {xs : List AV} (h : YA G (σ.put d x) f xs = none) : YA G σ f xs = none := by
 unfold YA at h ⊢
 grind
theorem Pk {m : Option Nat} {x : AV} (h : ¬ ((x.hasOwn && !Ss m x) = true)) : x.hasOwn = false ∨ Ss m x = true := by
 grind
theorem WQ {σ σ' : zJ} {t : TypeId} {s v r : AV} {ps : List zN} (hs : s.hasOwn = false ∨ Ss m s = true) (h : Yz P σ t s v = some (ps, σ', r)) :
  yk m none σ σ' ∧ ∀ (d : Option Tmp) (x : AV), Yz P (σ.put d x) t s v = some (ps, σ'.put d x, r) := by
 unfold Yz at h ⊢
 repeat' split at h
 all_goals first | cases h | skip
 ·refine ⟨yk.add _ _, fun d x => ?_⟩
  simp only [xC, Xk, wy]
  simp_all
 ·refine ⟨⟨rfl, Nat.le_refl _, fun k' _ => rfl, fun _ _ => rfl⟩, fun d x => ?_⟩
  simp only [wy]
  simp_all
 ·refine ⟨yk.add _ _, fun d x => ?_⟩
  simp only [xC, Xk, wy]
  simp_all
 ·rename_i k n _ _ _ _ _ _ hcc
  have hm : ∀ k', k' < QU m σ.nb → k' ≠ k := by
   rcases hs with hs | hs
   ·cases hs
   ·cases m with
    | none => cases hs
    | some m' =>
     have h1 : m' ≤ k := Nat.le_of_ble_eq_true hs
     intro k' hk'
     have := N3 (m := m') (n := σ.nb)
     omega
  refine ⟨⟨rfl, Nat.le_succ _, fun k' hk' => ?_, fun _ _ => rfl⟩, fun d x => ?_⟩
  ·show upd (upd σ.bl k .dead) σ.nb _ k' = _
   rw [zM _ _ (Nat.ne_of_lt (Nat.lt_of_lt_of_le hk' Ma)), zM _ _ (hm k' hk')]
  ·simp only [Xk, wy]
   cases d <;> simp_all [zJ.put]
def old (σ : zJ) : Option Tmp → AV
 | some t => σ.tm t
 | none => .junk
theorem Pj (σ : zJ) (d : Option Tmp) (x : AV) : (σ.put d x).put d (old σ d) = σ := by
 cases d with
 | none => rfl
 | some d =>
  obtain ⟨n, tm, nb, bl⟩ := σ
  simp only [zJ.put, old, zJ.mk.injEq, true_and, and_true]
  funext t
  by_cases h : t = d
  ·subst h; rw [upd_same]
  ·rw [zM _ _ h, zM _ _ h]
theorem mU {f : zJ → Option (zJ × AV)} (hf : ∀ σ σ' r, f σ = some (σ', r) → yk m none σ σ' ∧ ∀ d x, f (σ.put d x) = some (σ'.put d x, r)) {σ σ1 : zJ} {d : Option Tmp} {x r : AV}
  (h : f (σ.put d x) = some (σ1, r)) : ∃ σ', f σ = some (σ', r) ∧ yk m none σ σ' ∧ σ1 = σ'.put d x := by
 obtain ⟨h1, h2⟩ := hf _ _ _ h
 have h3 := h2 d (old σ d)
 rw [Pj] at h3
 grind
theorem Ns {f : zJ → Option (List zN × zJ × AV)} (hf : ∀ σ ps σ' r, f σ = some (ps, σ', r) → yk m none σ σ' ∧ ∀ d x, f (σ.put d x) = some (ps, σ'.put d x, r)) {σ σ1 : zJ} {d : Option Tmp} {x r : AV} {ps : List zN}
  (h : f (σ.put d x) = some (ps, σ1, r)) : ∃ σ', f σ = some (ps, σ', r) ∧ yk m none σ σ' ∧ σ1 = σ'.put d x := by
 obtain ⟨h1, h2⟩ := hf _ _ _ _ h
 have h3 := h2 d (old σ d)
 rw [Pj] at h3
 grind
theorem Z7 {σ σ' : zJ} {d d' : Option Tmp} {x y : AV} {K : zJ → Prop} (h : yk m none σ σ') (hd : ∀ t, d = some t → d' ≠ some t) (hK : K ((σ'.put d x).put d' y)) :
  yk m d' σ (σ'.put d' y) ∧ K ((σ'.put d' y).put d x) := ⟨h.put d' y, by rw [put_comm hd] at hK; exact hK⟩
theorem ov {σ : zJ} {d : Option Tmp} {x : AV} {j : Nat} {want : Bool} (h : ∀ t, d = some t → (ops[j]?).bind (·.dst) ≠ some t) : YX ops (σ.put d x) j want = YX ops σ j want := by
 unfold YX
 cases ho : ops[j]? with
 | none => rfl
 | some o =>
  simp only
  cases hd : o.dst with
  | none => rfl
  | some t =>
   simp only
   cases d with
   | none => rfl
   | some d =>
    have hne : t ≠ d := fun e => h d rfl (by rw [ho, Option.bind_some, hd, e])
    simp only [zJ.put, zM _ _ hne]
theorem uX {ex : TypeId → (AV → Prop) → Prop} (hex : ∀ t k k', (∀ r, k r → k' r) → ex t k → ex t k') : ∀ (ts : List TypeId) (k k' : List AV → Prop), (∀ r, k r → k' r) → WW ex ts k → WW ex ts k'
 | [], _, _, h, hk => h _ hk
 | _ :: ts, _, _, h, hk => hex _ _ _ (fun _ hv => uX hex ts _ _ (fun _ hr => h _ hr) hv) hk
theorem ss : ∀ (n : Nat) (t : TypeId) (k k' : AV → Prop), (∀ r, k r → k' r) → ut P n t k → ut P n t k'
 | 0, _, _, _, h, ⟨r, hr⟩ => ⟨r, h _ hr⟩
 | n + 1, t, k, k', h, hk => by
  unfold ut at hk ⊢
  split at hk
  ·grind
  ·grind
  ·grind
  ·grind
  ·exact uX (ss n) _ _ _ (fun r hr => h _ hr) hk
  grind
theorem zC {ps : List zN} {k k' : Prop} (h : k → k') (hp : YL ps k) : YL ps k' := by
 rw [Zm] at hp ⊢
 simp_all
theorem Y9 {g : Bool} {ps : List zN} {k k' : Prop} (h : k → k') (hp : qy g ps k) : qy g ps k' := by
 rw [ym] at hp ⊢
 simp_all
theorem U0 {o : Oper} {d : Option Tmp} (h : ∀ t, d = some t → t ∉ o.looksAt ops.toArray) : ∀ x ∈ o.op.operands, ∀ t, x = .tmp t → d ≠ some t := fun x hx t hxt hd =>
 h t hd (List.mem_append_left _ (List.mem_filterMap.2 ⟨x, Array.mem_toList_iff.2 hx, by rw [hxt]⟩))
theorem uz {o : Oper} {d : Option Tmp} {j : Nat} {want : Bool} (h : ∀ t, d = some t → t ∉ o.looksAt ops.toArray) (hg : o.guard = some (j, want)) :
  ∀ t, d = some t → (ops[j]?).bind (·.dst) ≠ some t := fun t hd he =>
 h t hd (List.mem_append_right _ (by rw [hg]; simp only [List.getElem?_toArray]; rw [he]; simp))
theorem tI {g : Option Bool} {ps : List zN} {k k' : Prop} (h : k → k') (hp : M5 g ps k) : M5 g ps k' := by
 cases g with
 | none => exact zC h hp
 | some g => exact Y9 h hp
theorem YV {P : Program} {G : Cx} {g : Option Bool} {f : FuncId} {xs : List AV} {t : TypeId} {K K' : AV → Prop} (h : ∀ r, K r → K' r) (hk : xe P G g f xs t K) : xe P G g f xs t K' := by
 unfold xe at hk ⊢
 split at hk
 ·exact tI (h _) hk
 ·exact ss 3 _ _ _ (fun r hr => ⟨hr.1, h r hr.2⟩) hk
theorem wN {P : Program} {G : Cx} {g : Option Bool} {f : FuncId} {xs : List AV} {t : TypeId} {K K' : AV → Prop} (h : ∀ r, K r → K' r) (hk : wj P G g f xs t K) : wj P G g f xs t K' := by
 unfold wj at hk ⊢
 split at hk
 ·grind
 ·exact YV h hk
theorem Yo {σ σ' : zJ} {l : List Operand} (h : ∀ x ∈ l, σ'.ev x = σ.ev x) : Zb σ' l = Zb σ l := by
 unfold Zb
 rw [List.flatMap_def, List.flatMap_def]
 congr 1
 simp_all
theorem YS {σ σ' : zJ} {x : Operand} (h : σ'.ev x = σ.ev x) : σ'.sv x = σ.sv x := by unfold zJ.sv; rw [h]
theorem R6 {σ : zJ} {o : Oper} {d : Option Tmp} {x : AV} {f : FuncId} {xs : List AV} {K : zJ → Prop} (h2 : ∀ t, d = some t → o.dst ≠ some t) (h : XL P G (σ.put d x) o f xs K) :
  XL P G σ o f xs fun σ' => yk m o.dst σ σ' ∧ K (σ'.put d x) := by
 unfold XL at h ⊢
 simp only [wy, Xk, xC] at h
 split at h
 ·exact h.elim
 ·split at h
  ·exact YV (fun r hk => Z7 (yk.refl none σ) h2 hk) h
  omega
theorem sA {σ : zJ} {o : Oper} {f : FuncId} {xs : List AV} {K K' : zJ → Prop} (hk : ∀ σ, K σ → K' σ) (h : XL P G σ o f xs K) : XL P G σ o f xs K' := by
 unfold XL at h ⊢
 split at h
 ·exact h.elim
 ·split at h
  ·exact YV (fun r h => hk _ h) h
  omega
theorem lu {σ : zJ} {o : Oper} {d : Option Tmp} {x : AV} {K : zJ → Prop} (h1 : ∀ x ∈ o.op.operands, ∀ t, x = .tmp t → d ≠ some t) (h2 : ∀ t, d = some t → o.dst ≠ some t)
  (h : Vq P G m (σ.put d x) o K) : Vq P G m σ o fun σ' => yk m o.dst σ σ' ∧ K (σ'.put d x) := by
 have hev : ∀ y ∈ o.op.operands, (σ.put d x).ev y = σ.ev y := fun y hy => M0 (h1 y hy)
 have hsv : ∀ y ∈ o.op.operands, (σ.put d x).sv y = σ.sv y := fun y hy => YS (hev y hy)
 have gr : ∀ r, K ((σ.put d x).put o.dst r) → yk m o.dst σ (σ.put o.dst r) ∧ K ((σ.put o.dst r).put d x) := fun r hk => Z7 (yk.refl none σ) h2 hk
 unfold Vq at h ⊢
 split at h
 ·rename_i e ho
  simp only
  split at h
  ·rename_i σ1 r he
   obtain ⟨σ', g1, g2, rfl⟩ := mU (f := fun σ => xJ P σ e) (fun _ _ _ h => tA h) he
   simp only [g1]
   exact Z7 g2 h2 h
  ·exact h.elim
 ·rename_i t y ho
  have e1 := hev y (by rw [ho]; simp [Op.operands])
  have e2 := hsv y (by rw [ho]; simp [Op.operands])
  simp only [e1, e2] at h
  simp only
  split at h
  ·rename_i σ1 r he
   obtain ⟨σ', g1, g2, rfl⟩ := mU (f := fun s => WR s t (σ.sv y)) (fun _ _ _ h => R8 h) he
   simp only [g1]
   exact zC (Z7 g2 h2) h
  ·exact h.elim
 ·exact h.elim
 ·rename_i t n parts ho
  have hin : ∀ p ∈ parts.toList, p.2 ∈ o.op.operands := fun p hp => by rw [ho]; simp only [Op.operands, List.mem_toArray, List.mem_map]; exact ⟨p, hp, rfl⟩
  have e1 : (parts.toList.map fun p => (σ.put d x).sv p.2) = parts.toList.map fun p => σ.sv p.2 := List.map_congr_left fun p hp => hsv _ (hin p hp)
  have e2 : Zb (σ.put d x) (parts.toList.map (·.2)) = Zb σ (parts.toList.map (·.2)) := Yo fun y hy => by
   obtain ⟨p, hp, rfl⟩ := List.mem_map.1 hy
   exact hev _ (hin p hp)
  simp only [e1, e2] at h
  simp only
  split at h
  ·exact h.elim
  ·rename_i hno
   rw [if_neg hno]
   split at h
   ·rename_i σ1 r he
    obtain ⟨σ', g1, g2, rfl⟩ := mU (f := fun s => ZK P s t n (parts.toList.map fun p : Nat × Operand => p.1) (parts.toList.map fun p : Nat × Operand => σ.sv p.2)) (fun _ _ _ h => tB h) he
    simp only [g1]
    exact zC (Z7 g2 h2) h
   ·exact h.elim
 ·rename_i t l c ho
  have e1 := hev l (by rw [ho]; simp [Op.operands])
  have e2 := hev c (by rw [ho]; simp [Op.operands])
  simp only [e1, e2, YS e1, YS e2] at h
  simp only
  split at h
  ·rename_i ps σ1 r he
   obtain ⟨σ', g1, g2, rfl⟩ := Ns (f := fun s => yn P s t (σ.sv l) (σ.sv c)) (fun _ _ _ _ h => SY h) he
   simp only [g1]
   exact zC (Z7 g2 h2) h
  ·exact h.elim
 ·rename_i f args ts ho
  have e1 := hev f (by rw [ho]; simp [Op.operands, Call.operands])
  have hin : ∀ y ∈ args.toList, y ∈ o.op.operands := fun y hy => by rw [ho]; simp only [Op.operands, Call.operands, Array.mem_append]; exact .inr (Array.mem_toList_iff.1 hy)
  have e2 : args.toList.map (σ.put d x).sv = args.toList.map σ.sv := List.map_congr_left fun y hy => hsv _ (hin y hy)
  have e3 : Zb (σ.put d x) args.toList = Zb σ args.toList := Yo fun y hy => hev _ (hin y hy)
  simp only [e1, e2, e3, YS e1] at h
  simp only
  split at h
  ·refine zC (fun h => ?_) h
   split at h
   ·rename_i hown
    rw [if_pos hown]
    exact R6 h2 h
   ·rename_i hno
    rw [if_neg hno]
    split at h
    ·rename_i ps σ1 r he
     obtain ⟨σ', g1, g2, rfl⟩ := Ns (f := fun u => YA G u _ _) (fun _ _ _ _ h => rE h) he
     simp only [g1]
     exact zC (Z7 g2 h2) h
    ·rename_i he
     rw [qw he]
     exact wN gr h
  ·exact h.elim
 ·rename_i args ts ho
  have hin : ∀ y ∈ args.toList, y ∈ o.op.operands := fun y hy => by rw [ho]; simp only [Op.operands, Call.operands, Array.mem_append]; exact .inr (Array.mem_toList_iff.1 hy)
  simp only
  split at h
  ·rename_i s y t t' ha ht
   have e1 := hev s (hin s (by rw [ha]; simp))
   have e2 := hev y (hin y (by rw [ha]; simp))
   simp only [e1, e2, YS e1, YS e2] at h
   split at h
   ·rename_i htt
    rw [if_pos htt]
    split at h
    ·exact h.elim
    ·rename_i hno
     rw [if_neg hno]
     split at h
     ·rename_i ps σ1 r he
      obtain ⟨σ', g1, g2, rfl⟩ := Ns (f := fun u => Yz P u t (σ.sv s) (σ.sv y)) (fun _ _ _ _ h => WQ (Pk hno) h) he
      simp only [g1]
      exact zC (Z7 g2 h2) h
     ·rename_i he0
      have e0 : Yz P σ t (σ.sv s) (σ.sv y) = none := by
       cases h0 : Yz P σ t (σ.sv s) (σ.sv y) with
       | none => rfl
       | some q =>
        obtain ⟨ps, σ1, r⟩ := q
        rw [(WQ (Pk hno) h0).2 d x] at he0
        cases he0
      exact h.elim
   ·exact h.elim
  ·exact h.elim
 ·have e : yd P G.objs (σ.put d x).bl (σ.put d x).ev o.op = yd P G.objs σ.bl σ.ev o.op := VQ hev fun _ _ _ _ => by rw [wy]
  rw [e] at h
  split at h
  ·rename_i ps r he
   exact zC (gr r) h
  ·exact h.elim
theorem LB {g : Bool} {σ : zJ} {o : Oper} {d : Option Tmp} {x : AV} {K : zJ → Prop} (h1 : ∀ x ∈ o.op.operands, ∀ t, x = .tmp t → d ≠ some t) (h2 : ∀ t, d = some t → o.dst ≠ some t)
  (h : sf P G g (σ.put d x) o K) : sf P G g σ o fun σ' => yk m o.dst σ σ' ∧ K (σ'.put d x) := by
 have hev : ∀ y ∈ o.op.operands, (σ.put d x).ev y = σ.ev y := fun y hy => M0 (h1 y hy)
 have hsv : ∀ y ∈ o.op.operands, (σ.put d x).sv y = σ.sv y := fun y hy => YS (hev y hy)
 have gr : ∀ r, K ((σ.put d x).put o.dst r) → yk m o.dst σ (σ.put o.dst r) ∧ K ((σ.put o.dst r).put d x) := fun r hk => Z7 (yk.refl none σ) h2 hk
 unfold sf at h ⊢
 split at h
 ·rename_i f args ts ho
  have e1 := hev f (by rw [ho]; simp [Op.operands, Call.operands])
  have hin : ∀ y ∈ args.toList, y ∈ o.op.operands := fun y hy => by rw [ho]; simp only [Op.operands, Call.operands, Array.mem_append]; exact .inr (Array.mem_toList_iff.1 hy)
  have e2 : args.toList.map (σ.put d x).sv = args.toList.map σ.sv := List.map_congr_left fun y hy => hsv _ (hin y hy)
  have e3 : Zb (σ.put d x) args.toList = Zb σ args.toList := Yo fun y hy => hev _ (hin y hy)
  simp only [e1, e2, e3, YS e1, wy] at h
  simp only
  split at h
  ·refine Y9 (fun h => ?_) h
   split at h
   ·rename_i hno
    rw [if_pos hno]
    split at h
    ·split at h
     ·exact gr _ h
     ·exact h.elim
    ·split at h
     ·rename_i hs
      rw [if_pos hs]
      exact YV (fun r hr => gr _ hr) h
     ·exact h.elim
   ·rename_i hno
    rw [if_neg hno]
    exact wN (fun r hr => gr _ hr) h
  ·exact h.elim
 ·rename_i tb lb parts ho
  have hin : ∀ p ∈ parts.toList, p.2 ∈ o.op.operands := fun p hp => by rw [ho]; simp only [Op.operands, List.mem_toArray, List.mem_map]; exact ⟨p, hp, rfl⟩
  have e1 : (parts.toList.map fun p => (σ.put d x).sv p.2) = parts.toList.map fun p => σ.sv p.2 := List.map_congr_left fun p hp => hsv _ (hin p hp)
  have e2 : Zb (σ.put d x) (parts.toList.map (·.2)) = Zb σ (parts.toList.map (·.2)) := Yo fun y hy => by
   obtain ⟨p, hp, rfl⟩ := List.mem_map.1 hy
   exact hev _ (hin p hp)
  rw [e1, e2] at h
  split at h
  ·exact h.elim
  ·rename_i hno
   rw [if_neg hno]
   split at h
   ·rename_i σ1 r he
    rw [(Yp he).2 σ]
    exact Y9 (gr _) h
   ·exact h.elim
 ·have e : yd P G.objs (σ.put d x).bl (σ.put d x).ev o.op = yd P G.objs σ.bl σ.ev o.op := VQ hev fun _ _ _ _ => by rw [wy]
  rw [e] at h
  split at h
  ·exact Y9 (gr _) h
  ·exact h.elim
theorem Oq {σ : zJ} {o : Oper} {d : Option Tmp} {x : AV} {K : zJ → Prop} (h1 : ∀ t, d = some t → t ∉ o.looksAt ops.toArray) (h2 : ∀ t, d = some t → o.dst ≠ some t)
  (h : XM P G m ops o (σ.put d x) K) : XM P G m ops o σ fun σ' => yk m o.dst σ σ' ∧ K (σ'.put d x) := by
 unfold XM at h ⊢
 split at h
 ·exact lu (U0 h1) h2 h
 ·rename_i j want hg
  rw [ov (uz h1 hg)] at h
  split at h
  ·rename_i g _
   cases hc : G.conc && !g with
   | true =>
    rw [hc] at h
    exact Z7 (yk.refl none σ) h2 h
   | false =>
    rw [hc] at h
    exact LB (U0 h1) h2 h
  omega
theorem oJ {σ : zJ} {o : Oper} {K K' : zJ → Prop} (hk : ∀ σ, K σ → K' σ) (h : Vq P G m σ o K) : Vq P G m σ o K' := by
 unfold Vq at h ⊢
 split at h
 ·grind
 ·split at h
  ·exact zC (hk _) h
  ·exact h
 ·exact h
 ·split at h
  ·exact h.elim
  ·rename_i hno
   rw [if_neg hno]
   split at h
   ·exact zC (hk _) h
   ·exact h
 ·split at h
  ·exact zC (hk _) h
  ·exact h
 ·split at h
  ·refine zC (fun h => ?_) h
   split at h
   ·rename_i hown
    rw [if_pos hown]
    exact sA hk h
   ·rename_i hno
    rw [if_neg hno]
    split at h
    ·exact zC (hk _) h
    ·exact wN (fun r hr => hk _ hr) h
  ·exact h
 ·split at h
  ·split at h
   ·rename_i htt
    rw [if_pos htt]
    split at h
    ·exact h.elim
    ·rename_i hno
     rw [if_neg hno]
     split at h
     ·exact zC (hk _) h
     ·exact h
   simp_all
  ·exact h
 ·split at h
  ·exact zC (hk _) h
  ·exact h
theorem vL {g : Bool} {σ : zJ} {o : Oper} {K K' : zJ → Prop} (hk : ∀ σ, K σ → K' σ) (h : sf P G g σ o K) : sf P G g σ o K' := by
 unfold sf at h ⊢
 split at h
 ·split at h
  ·refine Y9 (fun h => ?_) h
   split at h
   ·rename_i hno
    rw [if_pos hno]
    split at h
    ·grind
    ·split at h
     ·rename_i hs
      rw [if_pos hs]
      exact YV (fun r hr => hk _ hr) h
     simp_all
   ·rename_i hno
    rw [if_neg hno]
    exact wN (fun r hr => hk _ hr) h
  ·exact h
 ·split at h
  ·exact h.elim
  ·rename_i hno
   rw [if_neg hno]
   split at h
   ·exact Y9 (hk _) h
   ·exact h
 ·split at h
  ·exact Y9 (hk _) h
  ·exact h
theorem vV {σ : zJ} {o : Oper} {K K' : zJ → Prop} (hk : ∀ σ, K σ → K' σ) (h : XM P G m ops o σ K) : XM P G m ops o σ K' := by
 unfold XM at h ⊢
 split at h
 ·exact oJ hk h
 ·split at h
  ·rename_i g _
   cases hc : G.conc && !g with
   | true => simp_all
   | false => rw [hc] at h; exact vL hk h
  ·exact h
theorem TW {σ : zJ} {xs : List AV} (h : ¬ (xs.any AV.hasOwn) = true) : Y4 σ xs = some (σ, xs) := by unfold Y4; rw [if_neg h]
theorem mq {σ : zJ} {o : Oper} {K : zJ → Prop} (h : Vq P G m σ o K) : jx P G σ o K := by
 unfold Vq at h
 unfold jx
 split at h
 ·grind
 ·grind
 ·exact h.elim
 ·rename_i ho
  simp only [ho]
  split at h
  ·exact h.elim
  ·rename_i hno
   rw [sJ hno, TW fun h => hno (by rw [h]; rfl)]
   exact h
 ·grind
 ·rename_i ho
  simp only [ho]
  split at h
  ·rename_i hf
   simp only [hf]
   refine zC (fun h => ?_) h
   split at h
   ·rename_i hown
    unfold WY
    rw [if_pos hown]
    unfold XL at h
    split at h
    ·exact h.elim
    ·rename_i ho0
     rw [ho0]
     simp only
     split at h
     ·simp_all
     ·exact h.elim
   ·rename_i hno
    unfold WY
    rw [if_neg hno]
    split at h
    ·simp_all
    rename_i he
    rw [he]
    unfold wj at h
    split at h
    ·exact h.elim
    ·exact h
  ·exact h.elim
 ·rename_i ho
  simp only [ho]
  split at h
  ·rename_i ha ht
   simp only [ha, ht]
   split at h
   ·split at h
    ·exact h.elim
    grind
   ·exact h.elim
  simp_all
 grind
theorem oC {g : Bool} {σ : zJ} {o : Oper} {K : zJ → Prop} (h : sf P G g σ o K) : rO P G g σ o K := by
 unfold rO
 split
 ·rename_i ho
  split
  ·rename_i hf
   split
   ·rename_i hi
    unfold sf at h
    simp only [ho, hf, ym] at h
    obtain ⟨h1, h2⟩ := h
    unfold wj at h2
    rw [hi] at h2
    cases g with
    | true => split at h2 <;> exact h2.elim
    | false => split at h2 <;> exact h2
   ·exact h
  ·rename_i hf
   unfold sf at h
   simp only [ho, hf] at h
   exact h.elim
  ·exact h
 ·exact h
theorem sW {σ : zJ} {o : Oper} {K : zJ → Prop} (h : XM P G m ops o σ K) : Ty P G ops o σ K := by
 unfold XM at h
 unfold Ty
 cases hg : o.guard with
 | none => rw [hg] at h; exact mq h
 | some jw =>
  rw [hg] at h
  simp only at h ⊢
  split at h
  ·rename_i g hga
   simp only [hga]
   cases hc : G.conc && !g with
   | true => simp_all
   | false => rw [hc] at h; exact oC h
  simp_all
end
end Go.Sx
