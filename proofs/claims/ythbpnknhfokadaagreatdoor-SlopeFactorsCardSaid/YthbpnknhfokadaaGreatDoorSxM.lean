/- Regions whose operations come in any order: what only computes or reads may be taken first. -/
import Derived.Test.YthbpnknhfokadaaGreatDoorSxK
set_option linter.unusedSimpArgs false
set_option linter.unusedVariables false
namespace Go.Sx
open Go Go.RowKit
def AV.top : AV → Option Nat
 | .np k _ | .ns k _ _ | .ap k _ _ | .ps k _ => some k
 | _ => none
section
variable {P : Program} {bl bl' : Nat → OB}
theorem rV {sh : Option Nat} {x : AV} (h : ∀ k, x.top = some k → bl' k = bl k) : xy bl' sh x = xy bl sh x := by
 cases x <;> simp only [xy] <;> rw [h _ rfl]
theorem Rf {x : AV} (h : ∀ k, x.top = some k → bl' k = bl k) : WS bl' x = WS bl x := by
 cases x <;> simp only [WS] <;> first | rw [h _ rfl] | (split <;> first | rfl | (rename_i e; cases e) | simp_all)
theorem qV {P : Program} {bl bl' : Nat → OB} {s d : TypeId} {x : AV} (h : ∀ k, x.top = some k → bl' k = bl k) : Ta P bl' s d x = Ta P bl s d x := by
 have e : tp bl' 1 x = tp bl 1 x := by
  cases x <;> first | rfl | skip
  rename_i k off m
  unfold tp
  simp only [h k rfl]
 unfold Ta
 rw [e]
theorem qT {x : AV} {d : Nat} (h : ∀ k, x.top = some k → bl' k = bl k) : x.shift bl' d = x.shift bl d := by
 cases x <;> simp only [AV.shift] <;> rw [h _ rfl]
theorem uP {t : TypeId} {x ix : AV} (h : ∀ k, x.top = some k → bl' k = bl k) : Yf P bl' t x ix = Yf P bl t x ix := by
 unfold Yf
 split
 ·split
  ·cases x with
   | ns k off len => have e := h k rfl; cases P.info? _ <;> simp only [e]
   | ps k len => have e := h k rfl; cases P.info? _ <;> simp only [e]
   | _ => cases P.info? _ <;> rfl
  ·cases x with
   | ap k i j => have e := h k rfl; cases P.info? _ <;> cases j <;> simp only [e]
   | np k off => have e := h k rfl; cases P.info? _ <;> simp only [e]
   | _ => cases P.info? _ <;> rfl
  ·rfl
 ·rfl
theorem Rm {t : TypeId} {x : AV} {lo hi mx : Option AV} (h : ∀ k, x.top = some k → bl' k = bl k) : WI P bl' t x lo hi mx = WI P bl t x lo hi mx := by
 unfold WI
 rcases P.underlying t with _ | u
 ·rfl
 ·cases u with
  | string =>
   grind
  | slice e =>
   cases x with
   | ns k off len =>
    have e := h k rfl
    grind
   | xl => grind
   | _ => rfl
  | _ => rfl
theorem oQ {t : TypeId} {x : AV} (h : ∀ k, x.top = some k → bl' k = bl k) : Tj P bl' t x = Tj P bl t x := by
 unfold Tj
 rcases P.underlying t with _ | u
 ·rfl
 ·cases x with
  | ns k off len =>
   have e := h k rfl
   grind
  | v x => grind
  | _ => cases u <;> rfl
theorem Mc {b : Builtin} {ts : List TypeId} {xs : List AV} (h : ∀ x ∈ xs, ∀ k, x.top = some k → bl' k = bl k) : qO P bl' b ts xs = qO P bl b ts xs := by
 unfold qO
 split <;> first | rfl | exact oQ (h _ (by simp))
theorem Sc {x : AV} (h : ∀ k, x.top = some k → bl' k = bl k) : vR bl' x = vR bl x := by
 unfold vR
 cases x with
 | ns k off len => simp only [h k rfl]
 | _ => rfl
theorem pd {op : BinOp} {t : TypeId} {x y : AV} (h1 : ∀ k, x.top = some k → bl' k = bl k) (h2 : ∀ k, y.top = some k → bl' k = bl k) : Od P bl' op t x y = Od P bl op t x y := by
 unfold Od Ss
 rw [Sc h1]
 cases y with
 | np k' o' => simp only [h2 k' rfl]
 | v u =>
  grind
 | _ => rfl
theorem VM {ob : List (Nat × Obj)} {ev ev' : Operand → AV} {o : Op} (he : ∀ x ∈ o.operands, ev' x = ev x) (hb : ∀ x ∈ o.operands, ∀ k, (ev x).strip.top = some k → bl' k = bl k) :
  yE P ob bl' ev' o = yE P ob bl ev o := by
 have hg : ((Yl o).flatMap fun x => (ev' x).gprop) = (Yl o).flatMap fun x => (ev x).gprop := by
  rw [List.flatMap_def, List.flatMap_def]
  congr 1
  refine List.map_congr_left fun x hx => ?_
  rw [he x]
  cases o <;> first | exact Array.mem_toList_iff.1 hx | cases hx
 have hr : ZI P ob bl' ev' (fun x => (ev' x).strip) o = ZI P ob bl ev (fun x => (ev x).strip) o := by
  have hm : ∀ l : List Operand, (∀ x ∈ l, x ∈ o.operands) → l.map (fun x => (ev' x).strip) = l.map fun x => (ev x).strip := fun l hl => List.map_congr_left fun x hx => by rw [he x (hl x hx)]
  have ho : ∀ l : Option Operand, (∀ x, l = some x → x ∈ o.operands) → l.map (fun x => (ev' x).strip) = l.map fun x => (ev x).strip := fun l hl => by
   cases l with
   | none => rfl
   | some x => simp only [Option.map_some, he x (hl x rfl)]
  cases o with
  | move x => simp only [ZI, he x (by simp [Op.operands])]
  | assign x => simp only [ZI, he x (by simp [Op.operands])]
  | pick c a b => simp only [ZI, he c (by simp [Op.operands]), he a (by simp [Op.operands]), he b (by simp [Op.operands])]
  | load t x =>
   have h := hb x (by simp [Op.operands])
   simp only [ZI, he x (by simp [Op.operands]), rV h]
  | nilCheck x =>
   have h := hb x (by simp [Op.operands])
   simp only [ZI, he x (by simp [Op.operands]), Rf h]
  | binOp op t x y t' =>
   have h1 := hb x (by simp [Op.operands])
   have h2 := hb y (by simp [Op.operands])
   simp only [ZI, he x (by simp [Op.operands]), he y (by simp [Op.operands]), pd h1 h2]
  | build t parts =>
   have : (parts.toList.map fun p => (p.1, (ev' p.2).strip)) = parts.toList.map fun p => (p.1, (ev p.2).strip) := List.map_congr_left fun p hp => by
    rw [he p.2 (by simp only [Op.operands, List.mem_toArray, List.mem_map]; exact ⟨p, hp, rfl⟩)]
   simp only [ZI, this]
  | unOp op t x => simp only [ZI, he x (by simp [Op.operands])]
  | convert s d x =>
   have h := hb x (by simp [Op.operands])
   simp only [ZI, he x (by simp [Op.operands]), qV h]
  | makeFunc f a b =>
   simp only [ZI, hm a.toList fun x hx => by simp only [Op.operands, Array.mem_append]; exact .inl (Array.mem_toList_iff.1 hx),
    hm b.toList fun x hx => by simp only [Op.operands, Array.mem_append]; exact .inr (Array.mem_toList_iff.1 hx)]
  | slice t x a b c =>
   have h := hb x (by simp [Op.operands])
   simp only [ZI, he x (by simp [Op.operands]), Rm h, ho a fun x hx => by simp [Op.operands, hx], ho b fun x hx => by simp [Op.operands, hx],
    ho c fun x hx => by simp [Op.operands, hx]]
  | fieldAddr t x f =>
   have h := hb x (by simp [Op.operands])
   simp only [ZI, he x (by simp [Op.operands]), qT h]
  | field t x f => simp only [ZI, he x (by simp [Op.operands])]
  | indexAddr t x i =>
   have h := hb x (by simp [Op.operands])
   simp only [ZI, he x (by simp [Op.operands]), he i (by simp [Op.operands]), uP h]
  | index t x i => simp only [ZI, he x (by simp [Op.operands]), he i (by simp [Op.operands])]
  | extract x i => simp only [ZI, he x (by simp [Op.operands])]
  | call c =>
   obtain ⟨cal, args, ts⟩ := c
   cases cal with
   | builtin b =>
    have hin : ∀ x ∈ args.toList, x ∈ (Op.call ⟨.builtin b, args, ts⟩).operands := fun x hx => by simpa [Op.operands, Call.operands] using hx
    simp only [ZI, hm _ hin]
    rw [Mc]
    intro x hx k hk
    obtain ⟨y, hy, rfl⟩ := List.mem_map.1 hx
    exact hb y (hin y hy) k hk
   | _ => rfl
  | _ => rfl
 unfold yE
 rw [hr, hg]
end
def QZ : Option Nat → Nat → Nat
 | none, n => n
 | some m, n => bif Nat.ble m n then m else n
theorem sG (m n : Nat) : QZ (some m) n = if m ≤ n then m else n := by
 show (bif Nat.ble m n then m else n) = _
 simp
theorem lV {m : Option Nat} {n : Nat} : QZ m n ≤ n := by
 cases m with
 | none => exact Nat.le_refl _
 | some m => rw [sG]; split <;> omega
theorem nN {m n : Nat} : QZ (some m) n ≤ m := by rw [sG]; split <;> omega
theorem Mi {m : Option Nat} {n n' : Nat} (h : n ≤ n') : QZ m n ≤ QZ m n' := by
 cases m with
 | none => exact h
 | some m => rw [sG, sG]; split <;> split <;> omega
structure yN (m : Option Nat) (d : Option Tmp) (σ σ' : zJ) : Prop where
 n : σ'.n = σ.n
 nb : σ.nb ≤ σ'.nb
 bl : ∀ k, k < QZ m σ.nb → σ'.bl k = σ.bl k
 tm : ∀ t, d ≠ some t → σ'.tm t = σ.tm t
theorem yN.refl {m : Option Nat} (d : Option Tmp) (σ : zJ) : yN m d σ σ := ⟨rfl, Nat.le_refl _, fun _ _ => rfl, fun _ _ => rfl⟩
theorem yN.put {m : Option Nat} {σ σ' : zJ} (h : yN m none σ σ') (d : Option Tmp) (x : AV) : yN m d σ (σ'.put d x) := by
 cases d with
 | none => exact h
 | some d => exact ⟨h.n, h.nb, h.bl, fun t ht => (zM _ _ fun e => ht (by rw [e])).trans (h.tm t (by simp))⟩
theorem yN.add {m : Option Nat} (σ : zJ) (B : OB) : yN m none σ (σ.add B) :=
 ⟨rfl, Nat.le_succ _, fun _ hk => zM _ _ (Nat.ne_of_lt (Nat.lt_of_lt_of_le hk lV)), fun _ _ => rfl⟩
theorem Xi (σ : zJ) (d : Option Tmp) (x : AV) : (σ.put d x).nb = σ.nb := by cases d <;> rfl
theorem wS (σ : zJ) (d : Option Tmp) (x : AV) : (σ.put d x).bl = σ.bl := by cases d <;> rfl
theorem xD (σ : zJ) (d : Option Tmp) (x : AV) (B : OB) : (σ.put d x).add B = (σ.add B).put d x := by cases d <;> rfl
theorem put_comm {σ : zJ} {d d' : Option Tmp} {x y : AV} (h : ∀ t, d = some t → d' ≠ some t) : (σ.put d x).put d' y = (σ.put d' y).put d x := by
 cases d with
 | none => rfl
 | some d => cases d' with
  | none => rfl
  | some d' =>
   simp only [zJ.put, zJ.mk.injEq, true_and, and_true]
   funext t
   by_cases h1 : t = d'
   ·subst h1
    rw [upd_same, zM _ _ (fun e => h d rfl (by rw [e])), upd_same]
   ·rw [zM _ _ h1]
    by_cases h2 : t = d
    ·subst h2; rw [upd_same, upd_same]
    ·rw [zM _ _ h2, zM _ _ h2, zM _ _ h1]
theorem yN.ev {m : Option Nat} {σ σ' : zJ} {d : Option Tmp} (h : yN m d σ σ') {x : Operand} (hx : ∀ t, x = .tmp t → d ≠ some t) : σ'.ev x = σ.ev x := by
 cases x with
 | tmp t => simp only [zJ.ev, h.n, h.tm t (hx t rfl)]
 | _ => rfl
theorem N1 {σ : zJ} {d : Option Tmp} {v : AV} {x : Operand} (hx : ∀ t, x = .tmp t → d ≠ some t) : (σ.put d v).ev x = σ.ev x := ((yN.refl (m := none) none σ).put d v).ev hx
def sk : Option Nat → AV → Bool
 | some m, .ns k _ _ => Nat.ble m k
 | _, _ => false
def Xk (P : Program) (G : Cx) (σ : zJ) (o : Oper) (f : FuncId) (xs : List AV) (k : zJ → Prop) : Prop :=
 match G.own f with
 | some _ => Zc o
 | none =>
  match wd P G f (xs.map (lend σ.bl)) o.type with
  | true => xF P G none f (xs.map (lend σ.bl)) o.type fun r => k (σ.put o.dst r)
  | false => Zc o
def Vb (P : Program) (G : Cx) (m : Option Nat) (σ : zJ) (o : Oper) (k : zJ → Prop) : Prop :=
 match o.op with
 | .alloc elem =>
  match xi P σ elem with
  | some (σ', r) => k (σ'.put o.dst r)
  | none => Zc o
 | .box t x =>
  match WV σ t (σ.sv x) with
  | some (σ', r) => Ym (σ.ev x).gprop (k (σ'.put o.dst r))
  | none => Zc o
 | .store _ _ _ => Zc o
 | .buildSlice t len parts =>
  if ((parts.toList.map fun p => σ.sv p.2).any AV.hasOwn || Vp (parts.toList.map (·.2))) = true then Zc o
  else
   match ZJ P σ t len (parts.toList.map (·.1)) (parts.toList.map fun p => σ.sv p.2) with
   | some (σ', r) => Ym (Zb σ (parts.toList.map (·.2))) (k (σ'.put o.dst r))
   | none => Zc o
 | .makeSlice t l c =>
  match yL P σ t (σ.sv l) (σ.sv c) with
  | some (ps, σ', r) => Ym ((σ.ev l).gprop ++ (σ.ev c).gprop ++ ps) (k (σ'.put o.dst r))
  | none => Zc o
 | .call { callee := .value f, args, .. } =>
  match σ.sv f with
  | .fn (.func fid) nf first nc cap =>
   Ym ((σ.ev f).gprop ++ Zb σ args.toList) <|
    if (y7 nf first (args.toList.map σ.sv) nc cap).any AV.hasOwn then Xk P G σ o fid (y7 nf first (args.toList.map σ.sv) nc cap) k
    else
     match YB G σ fid (y7 nf first (args.toList.map σ.sv) nc cap) with
     | some (ps, σ', r) => Ym ps (k (σ'.put o.dst r))
     | none => wN P G none fid (y7 nf first (args.toList.map σ.sv) nc cap) o.type fun r => k (σ.put o.dst r)
  | _ => Zc o
 | .call { callee := .builtin .append, args, argTypes } =>
  match args.toList, argTypes.toList with
  | [s, x], [t, t'] =>
   if t = t' then
    if ((σ.sv s).hasOwn && !sk m (σ.sv s)) = true then Zc o
    else
     match y9 P σ t (σ.sv s) (σ.sv x) with
     | some (ps, σ', r) => Ym ((σ.ev s).gprop ++ (σ.ev x).gprop ++ ps) (k (σ'.put o.dst r))
     | none => Zc o
   else Zc o
  | _, _ => Zc o
 | op =>
  match yE P G.objs σ.bl σ.ev op with
  | some (ps, r) => Ym ps (k (σ.put o.dst r))
  | none => Zc o
def XL (P : Program) (G : Cx) (m : Option Nat) (ops : List Oper) (o : Oper) (σ : zJ) (k : zJ → Prop) : Prop :=
 match o.guard with
 | none => Vb P G m σ o k
 | some (j, want) =>
  match YX ops σ j want with
  | some g =>
   match G.conc && !g with
   | true => k (σ.put o.dst (.gd false (U7 P o.type)))
   | false => rY P G g σ o k
  | none => Zc o
end Go.Sx

namespace Go.Sx
open Go Go.RowKit
section
variable {P : Program} {G : Cx} {m : Option Nat} {ops : List Oper}
theorem TZ {σ σ' : zJ} {e : TypeId} {r : AV} (h : xi P σ e = some (σ', r)) : yN m none σ σ' ∧ ∀ (d : Option Tmp) (x : AV), xi P (σ.put d x) e = some (σ'.put d x, r) := by
 unfold xi at h ⊢
 repeat' split at h
 all_goals first | cases h | skip
 ·rename_i hc
  refine ⟨yN.add _ _, fun d x => ?_⟩
  simp only [xD, Xi, if_pos hc]
 ·rename_i hn hc
  refine ⟨yN.add _ _, fun d x => ?_⟩
  simp only [xD, Xi, if_neg hn, if_pos hc]
 ·rename_i hc
  refine ⟨yN.add _ _, fun d x => ?_⟩
  simp only [xD, Xi, if_pos hc]
theorem RO {σ σ' : zJ} {t : TypeId} {v r : AV} (h : WV σ t v = some (σ', r)) : yN m none σ σ' ∧ ∀ (d : Option Tmp) (x : AV), WV (σ.put d x) t v = some (σ'.put d x, r) := by
 unfold WV at h ⊢
 split at h
 ·rename_i n cs hc
  cases h
  exact ⟨yN.add _ _, fun d x => by simp only [wS, Xi, xD, hc]⟩
 ·cases h
theorem t8 {σ σ' : zJ} {t : TypeId} {n : Nat} {idx : List Nat} {xs : List AV} {r : AV} (h : ZJ P σ t n idx xs = some (σ', r)) :
  yN m none σ σ' ∧ ∀ (d : Option Tmp) (x : AV), ZJ P (σ.put d x) t n idx xs = some (σ'.put d x, r) := by
 obtain ⟨rfl, h2⟩ := Yn h
 exact ⟨yN.refl _ _, fun d x => h2 _⟩
theorem rm {σ σ' : zJ} {t : TypeId} {l c r : AV} {ps : List zN} (h : yL P σ t l c = some (ps, σ', r)) :
  yN m none σ σ' ∧ ∀ (d : Option Tmp) (x : AV), yL P (σ.put d x) t l c = some (ps, σ'.put d x, r) := by
 unfold yL at h ⊢
 repeat' split at h
 all_goals first | cases h | skip
 rename_i hc
 refine ⟨yN.add _ _, fun d x => ?_⟩
 simp only [xD, Xi, if_pos hc]
theorem Ro {G : Cx} {σ σ' : zJ} {f : FuncId} {xs : List AV} {r : AV} {ps : List zN} (h : YB G σ f xs = some (ps, σ', r)) :
  yN m none σ σ' ∧ ∀ d x, YB G (σ.put d x) f xs = some (ps, σ'.put d x, r) := by
 unfold YB at h ⊢
 split at h
 ·rename_i hf
  cases h
  exact ⟨yN.add _ _, fun d x => by simp only [xD, Xi]⟩
 ·cases h
theorem Rx {G : Cx} {σ : zJ} {d : Option Tmp} {x : AV} {f : FuncId} {xs : List AV} (h : YB G (σ.put d x) f xs = none) : YB G σ f xs = none := by
 unfold YB at h ⊢
 grind
theorem Px {m : Option Nat} {x : AV} (h : ¬ ((x.hasOwn && !sk m x) = true)) : x.hasOwn = false ∨ sk m x = true := by
 grind
theorem w8 {σ σ' : zJ} {t : TypeId} {s v r : AV} {ps : List zN} (hs : s.hasOwn = false ∨ sk m s = true) (h : y9 P σ t s v = some (ps, σ', r)) :
  yN m none σ σ' ∧ ∀ (d : Option Tmp) (x : AV), y9 P (σ.put d x) t s v = some (ps, σ'.put d x, r) := by
 unfold y9 at h ⊢
 repeat' split at h
 all_goals first | cases h | skip
 ·refine ⟨yN.add _ _, fun d x => ?_⟩
  simp only [xD, Xi, wS]
  simp_all
 ·refine ⟨⟨rfl, Nat.le_refl _, fun k' _ => rfl, fun _ _ => rfl⟩, fun d x => ?_⟩
  simp only [wS]
  simp_all
 ·refine ⟨yN.add _ _, fun d x => ?_⟩
  simp only [xD, Xi, wS]
  simp_all
 ·rename_i k n _ _ _ _ _ _ hcc
  have hm : ∀ k', k' < QZ m σ.nb → k' ≠ k := by
   rcases hs with hs | hs
   ·cases hs
   ·cases m with
    | none => cases hs
    | some m' =>
     have h1 : m' ≤ k := Nat.le_of_ble_eq_true hs
     intro k' hk'
     have := nN (m := m') (n := σ.nb)
     omega
  refine ⟨⟨rfl, Nat.le_succ _, fun k' hk' => ?_, fun _ _ => rfl⟩, fun d x => ?_⟩
  ·show upd (upd σ.bl k .dead) σ.nb _ k' = _
   rw [zM _ _ (Nat.ne_of_lt (Nat.lt_of_lt_of_le hk' lV)), zM _ _ (hm k' hk')]
  ·simp only [Xi, wS]
   cases d <;> simp_all [zJ.put]
def old (σ : zJ) : Option Tmp → AV
 | some t => σ.tm t
 | none => .junk
theorem pB (σ : zJ) (d : Option Tmp) (x : AV) : (σ.put d x).put d (old σ d) = σ := by
 cases d with
 | none => rfl
 | some d =>
  obtain ⟨n, tm, nb, bl⟩ := σ
  simp only [zJ.put, old, zJ.mk.injEq, true_and, and_true]
  funext t
  by_cases h : t = d
  ·subst h; rw [upd_same]
  ·rw [zM _ _ h, zM _ _ h]
theorem nB {f : zJ → Option (zJ × AV)} (hf : ∀ σ σ' r, f σ = some (σ', r) → yN m none σ σ' ∧ ∀ d x, f (σ.put d x) = some (σ'.put d x, r)) {σ σ1 : zJ} {d : Option Tmp} {x r : AV}
  (h : f (σ.put d x) = some (σ1, r)) : ∃ σ', f σ = some (σ', r) ∧ yN m none σ σ' ∧ σ1 = σ'.put d x := by
 obtain ⟨h1, h2⟩ := hf _ _ _ h
 have h3 := h2 d (old σ d)
 rw [pB] at h3
 grind
theorem Mf {f : zJ → Option (List zN × zJ × AV)} (hf : ∀ σ ps σ' r, f σ = some (ps, σ', r) → yN m none σ σ' ∧ ∀ d x, f (σ.put d x) = some (ps, σ'.put d x, r)) {σ σ1 : zJ} {d : Option Tmp} {x r : AV} {ps : List zN}
  (h : f (σ.put d x) = some (ps, σ1, r)) : ∃ σ', f σ = some (ps, σ', r) ∧ yN m none σ σ' ∧ σ1 = σ'.put d x := by
 obtain ⟨h1, h2⟩ := hf _ _ _ _ h
 have h3 := h2 d (old σ d)
 rw [pB] at h3
 grind
theorem Z9 {σ σ' : zJ} {d d' : Option Tmp} {x y : AV} {K : zJ → Prop} (h : yN m none σ σ') (hd : ∀ t, d = some t → d' ≠ some t) (hK : K ((σ'.put d x).put d' y)) :
  yN m d' σ (σ'.put d' y) ∧ K ((σ'.put d' y).put d x) := ⟨h.put d' y, by rw [put_comm hd] at hK; exact hK⟩
theorem OU {σ : zJ} {d : Option Tmp} {x : AV} {j : Nat} {want : Bool} (h : ∀ t, d = some t → (ops[j]?).bind (·.dst) ≠ some t) : YX ops (σ.put d x) j want = YX ops σ j want := by
 unfold YX
 cases ho : ops[j]? with
 | none => rfl
 | some o =>
  simp only
  cases hd : o.dst with
  | none => rfl
  | some t =>
   simp only
   cases d with
   | none => rfl
   | some d =>
    have hne : t ≠ d := fun e => h d rfl (by rw [ho, Option.bind_some, hd, e])
    simp only [zJ.put, zM _ _ hne]
theorem ux {ex : TypeId → (AV → Prop) → Prop} (hex : ∀ t k k', (∀ r, k r → k' r) → ex t k → ex t k') : ∀ (ts : List TypeId) (k k' : List AV → Prop), (∀ r, k r → k' r) → wC ex ts k → wC ex ts k'
 | [], _, _, h, hk => h _ hk
 | _ :: ts, _, _, h, hk => hex _ _ _ (fun _ hv => ux hex ts _ _ (fun _ hr => h _ hr) hv) hk
theorem so : ∀ (n : Nat) (t : TypeId) (k k' : AV → Prop), (∀ r, k r → k' r) → uU P n t k → uU P n t k'
 | 0, _, _, _, h, ⟨r, hr⟩ => ⟨r, h _ hr⟩
 | n + 1, t, k, k', h, hk => by
  unfold uU at hk ⊢
  split at hk
  ·grind
  ·grind
  ·grind
  ·grind
  ·exact ux (so n) _ _ _ (fun r hr => h _ hr) hk
  grind
theorem zb {ps : List zN} {k k' : Prop} (h : k → k') (hp : Ym ps k) : Ym ps k' := by
 rw [Zm] at hp ⊢
 simp_all
theorem xW {g : Bool} {ps : List zN} {k k' : Prop} (h : k → k') (hp : rk g ps k) : rk g ps k' := by
 rw [yM] at hp ⊢
 simp_all
theorem tr {o : Oper} {d : Option Tmp} (h : ∀ t, d = some t → t ∉ o.looksAt ops.toArray) : ∀ x ∈ o.op.operands, ∀ t, x = .tmp t → d ≠ some t := fun x hx t hxt hd =>
 h t hd (List.mem_append_left _ (List.mem_filterMap.2 ⟨x, Array.mem_toList_iff.2 hx, by rw [hxt]⟩))
theorem uZ {o : Oper} {d : Option Tmp} {j : Nat} {want : Bool} (h : ∀ t, d = some t → t ∉ o.looksAt ops.toArray) (hg : o.guard = some (j, want)) :
  ∀ t, d = some t → (ops[j]?).bind (·.dst) ≠ some t := fun t hd he =>
 h t hd (List.mem_append_right _ (by rw [hg]; simp only [List.getElem?_toArray]; rw [he]; simp))
theorem Uh {g : Option Bool} {ps : List zN} {k k' : Prop} (h : k → k') (hp : mX g ps k) : mX g ps k' := by
 cases g with
 | none => exact zb h hp
 | some g => exact xW h hp
theorem Yu {P : Program} {G : Cx} {g : Option Bool} {f : FuncId} {xs : List AV} {t : TypeId} {K K' : AV → Prop} (h : ∀ r, K r → K' r) (hk : xF P G g f xs t K) : xF P G g f xs t K' := by
 unfold xF at hk ⊢
 split at hk
 ·exact Uh (h _) hk
 ·exact so 3 _ _ _ (fun r hr => ⟨hr.1, h r hr.2⟩) hk
theorem wq {P : Program} {G : Cx} {g : Option Bool} {f : FuncId} {xs : List AV} {t : TypeId} {K K' : AV → Prop} (h : ∀ r, K r → K' r) (hk : wN P G g f xs t K) : wN P G g f xs t K' := by
 unfold wN at hk ⊢
 split at hk
 ·grind
 ·exact Yu h hk
theorem YO {σ σ' : zJ} {l : List Operand} (h : ∀ x ∈ l, σ'.ev x = σ.ev x) : Zb σ' l = Zb σ l := by
 unfold Zb
 rw [List.flatMap_def, List.flatMap_def]
 congr 1
 simp_all
theorem YV {σ σ' : zJ} {x : Operand} (h : σ'.ev x = σ.ev x) : σ'.sv x = σ.sv x := by unfold zJ.sv; rw [h]
theorem rF {σ : zJ} {o : Oper} {d : Option Tmp} {x : AV} {f : FuncId} {xs : List AV} {K : zJ → Prop} (h2 : ∀ t, d = some t → o.dst ≠ some t) (h : Xk P G (σ.put d x) o f xs K) :
  Xk P G σ o f xs fun σ' => yN m o.dst σ σ' ∧ K (σ'.put d x) := by
 unfold Xk at h ⊢
 simp only [wS, Xi, xD] at h
 split at h
 ·exact h.elim
 ·split at h
  ·exact Yu (fun r hk => Z9 (yN.refl none σ) h2 hk) h
  omega
theorem Sd {σ : zJ} {o : Oper} {f : FuncId} {xs : List AV} {K K' : zJ → Prop} (hk : ∀ σ, K σ → K' σ) (h : Xk P G σ o f xs K) : Xk P G σ o f xs K' := by
 unfold Xk at h ⊢
 split at h
 ·exact h.elim
 ·split at h
  ·exact Yu (fun r h => hk _ h) h
  omega
theorem Np {σ : zJ} {o : Oper} {d : Option Tmp} {x : AV} {K : zJ → Prop} (h1 : ∀ x ∈ o.op.operands, ∀ t, x = .tmp t → d ≠ some t) (h2 : ∀ t, d = some t → o.dst ≠ some t)
  (h : Vb P G m (σ.put d x) o K) : Vb P G m σ o fun σ' => yN m o.dst σ σ' ∧ K (σ'.put d x) := by
 have hev : ∀ y ∈ o.op.operands, (σ.put d x).ev y = σ.ev y := fun y hy => N1 (h1 y hy)
 have hsv : ∀ y ∈ o.op.operands, (σ.put d x).sv y = σ.sv y := fun y hy => YV (hev y hy)
 have gr : ∀ r, K ((σ.put d x).put o.dst r) → yN m o.dst σ (σ.put o.dst r) ∧ K ((σ.put o.dst r).put d x) := fun r hk => Z9 (yN.refl none σ) h2 hk
 unfold Vb at h ⊢
 split at h
 ·rename_i e ho
  simp only
  split at h
  ·rename_i σ1 r he
   obtain ⟨σ', g1, g2, rfl⟩ := nB (f := fun σ => xi P σ e) (fun _ _ _ h => TZ h) he
   simp only [g1]
   exact Z9 g2 h2 h
  ·exact h.elim
 ·rename_i t y ho
  have e1 := hev y (by rw [ho]; simp [Op.operands])
  have e2 := hsv y (by rw [ho]; simp [Op.operands])
  simp only [e1, e2] at h
  simp only
  split at h
  ·rename_i σ1 r he
   obtain ⟨σ', g1, g2, rfl⟩ := nB (f := fun s => WV s t (σ.sv y)) (fun _ _ _ h => RO h) he
   simp only [g1]
   exact zb (Z9 g2 h2) h
  ·exact h.elim
 ·exact h.elim
 ·rename_i t n parts ho
  have hin : ∀ p ∈ parts.toList, p.2 ∈ o.op.operands := fun p hp => by rw [ho]; simp only [Op.operands, List.mem_toArray, List.mem_map]; exact ⟨p, hp, rfl⟩
  have e1 : (parts.toList.map fun p => (σ.put d x).sv p.2) = parts.toList.map fun p => σ.sv p.2 := List.map_congr_left fun p hp => hsv _ (hin p hp)
  have e2 : Zb (σ.put d x) (parts.toList.map (·.2)) = Zb σ (parts.toList.map (·.2)) := YO fun y hy => by
   obtain ⟨p, hp, rfl⟩ := List.mem_map.1 hy
   exact hev _ (hin p hp)
  simp only [e1, e2] at h
  simp only
  split at h
  ·exact h.elim
  ·rename_i hno
   rw [if_neg hno]
   split at h
   ·rename_i σ1 r he
    obtain ⟨σ', g1, g2, rfl⟩ := nB (f := fun s => ZJ P s t n (parts.toList.map fun p : Nat × Operand => p.1) (parts.toList.map fun p : Nat × Operand => σ.sv p.2)) (fun _ _ _ h => t8 h) he
    simp only [g1]
    exact zb (Z9 g2 h2) h
   ·exact h.elim
 ·rename_i t l c ho
  have e1 := hev l (by rw [ho]; simp [Op.operands])
  have e2 := hev c (by rw [ho]; simp [Op.operands])
  simp only [e1, e2, YV e1, YV e2] at h
  simp only
  split at h
  ·rename_i ps σ1 r he
   obtain ⟨σ', g1, g2, rfl⟩ := Mf (f := fun s => yL P s t (σ.sv l) (σ.sv c)) (fun _ _ _ _ h => rm h) he
   simp only [g1]
   exact zb (Z9 g2 h2) h
  ·exact h.elim
 ·rename_i f args ts ho
  have e1 := hev f (by rw [ho]; simp [Op.operands, Call.operands])
  have hin : ∀ y ∈ args.toList, y ∈ o.op.operands := fun y hy => by rw [ho]; simp only [Op.operands, Call.operands, Array.mem_append]; exact .inr (Array.mem_toList_iff.1 hy)
  have e2 : args.toList.map (σ.put d x).sv = args.toList.map σ.sv := List.map_congr_left fun y hy => hsv _ (hin y hy)
  have e3 : Zb (σ.put d x) args.toList = Zb σ args.toList := YO fun y hy => hev _ (hin y hy)
  simp only [e1, e2, e3, YV e1] at h
  simp only
  split at h
  ·refine zb (fun h => ?_) h
   split at h
   ·rename_i hown
    rw [if_pos hown]
    exact rF h2 h
   ·rename_i hno
    rw [if_neg hno]
    split at h
    ·rename_i ps σ1 r he
     obtain ⟨σ', g1, g2, rfl⟩ := Mf (f := fun u => YB G u _ _) (fun _ _ _ _ h => Ro h) he
     simp only [g1]
     exact zb (Z9 g2 h2) h
    ·rename_i he
     rw [Rx he]
     exact wq gr h
  ·exact h.elim
 ·rename_i args ts ho
  have hin : ∀ y ∈ args.toList, y ∈ o.op.operands := fun y hy => by rw [ho]; simp only [Op.operands, Call.operands, Array.mem_append]; exact .inr (Array.mem_toList_iff.1 hy)
  simp only
  split at h
  ·rename_i s y t t' ha ht
   have e1 := hev s (hin s (by rw [ha]; simp))
   have e2 := hev y (hin y (by rw [ha]; simp))
   simp only [e1, e2, YV e1, YV e2] at h
   split at h
   ·rename_i htt
    rw [if_pos htt]
    split at h
    ·exact h.elim
    ·rename_i hno
     rw [if_neg hno]
     split at h
     ·rename_i ps σ1 r he
      obtain ⟨σ', g1, g2, rfl⟩ := Mf (f := fun u => y9 P u t (σ.sv s) (σ.sv y)) (fun _ _ _ _ h => w8 (Px hno) h) he
      simp only [g1]
      exact zb (Z9 g2 h2) h
     ·rename_i he0
      have e0 : y9 P σ t (σ.sv s) (σ.sv y) = none := by
       cases h0 : y9 P σ t (σ.sv s) (σ.sv y) with
       | none => rfl
       | some q =>
        obtain ⟨ps, σ1, r⟩ := q
        rw [(w8 (Px hno) h0).2 d x] at he0
        cases he0
      exact h.elim
   ·exact h.elim
  ·exact h.elim
 ·have e : yE P G.objs (σ.put d x).bl (σ.put d x).ev o.op = yE P G.objs σ.bl σ.ev o.op := VM hev fun _ _ _ _ => by rw [wS]
  rw [e] at h
  split at h
  ·rename_i ps r he
   exact zb (gr r) h
  ·exact h.elim
theorem Lz {g : Bool} {σ : zJ} {o : Oper} {d : Option Tmp} {x : AV} {K : zJ → Prop} (h1 : ∀ x ∈ o.op.operands, ∀ t, x = .tmp t → d ≠ some t) (h2 : ∀ t, d = some t → o.dst ≠ some t)
  (h : rY P G g (σ.put d x) o K) : rY P G g σ o fun σ' => yN m o.dst σ σ' ∧ K (σ'.put d x) := by
 have hev : ∀ y ∈ o.op.operands, (σ.put d x).ev y = σ.ev y := fun y hy => N1 (h1 y hy)
 have hsv : ∀ y ∈ o.op.operands, (σ.put d x).sv y = σ.sv y := fun y hy => YV (hev y hy)
 have gr : ∀ r, K ((σ.put d x).put o.dst r) → yN m o.dst σ (σ.put o.dst r) ∧ K ((σ.put o.dst r).put d x) := fun r hk => Z9 (yN.refl none σ) h2 hk
 unfold rY at h ⊢
 split at h
 ·rename_i f args ts ho
  have e1 := hev f (by rw [ho]; simp [Op.operands, Call.operands])
  have hin : ∀ y ∈ args.toList, y ∈ o.op.operands := fun y hy => by rw [ho]; simp only [Op.operands, Call.operands, Array.mem_append]; exact .inr (Array.mem_toList_iff.1 hy)
  have e2 : args.toList.map (σ.put d x).sv = args.toList.map σ.sv := List.map_congr_left fun y hy => hsv _ (hin y hy)
  have e3 : Zb (σ.put d x) args.toList = Zb σ args.toList := YO fun y hy => hev _ (hin y hy)
  simp only [e1, e2, e3, YV e1, wS] at h
  simp only
  split at h
  ·refine xW (fun h => ?_) h
   split at h
   ·rename_i hno
    rw [if_pos hno]
    split at h
    ·split at h
     ·exact gr _ h
     ·exact h.elim
    ·split at h
     ·rename_i hs
      rw [if_pos hs]
      exact Yu (fun r hr => gr _ hr) h
     ·exact h.elim
   ·rename_i hno
    rw [if_neg hno]
    exact wq (fun r hr => gr _ hr) h
  ·exact h.elim
 ·rename_i tb lb parts ho
  have hin : ∀ p ∈ parts.toList, p.2 ∈ o.op.operands := fun p hp => by rw [ho]; simp only [Op.operands, List.mem_toArray, List.mem_map]; exact ⟨p, hp, rfl⟩
  have e1 : (parts.toList.map fun p => (σ.put d x).sv p.2) = parts.toList.map fun p => σ.sv p.2 := List.map_congr_left fun p hp => hsv _ (hin p hp)
  have e2 : Zb (σ.put d x) (parts.toList.map (·.2)) = Zb σ (parts.toList.map (·.2)) := YO fun y hy => by
   obtain ⟨p, hp, rfl⟩ := List.mem_map.1 hy
   exact hev _ (hin p hp)
  rw [e1, e2] at h
  split at h
  ·exact h.elim
  ·rename_i hno
   rw [if_neg hno]
   split at h
   ·rename_i σ1 r he
    rw [(Yn he).2 σ]
    exact xW (gr _) h
   ·exact h.elim
 ·have e : yE P G.objs (σ.put d x).bl (σ.put d x).ev o.op = yE P G.objs σ.bl σ.ev o.op := VM hev fun _ _ _ _ => by rw [wS]
  rw [e] at h
  split at h
  ·exact xW (gr _) h
  ·exact h.elim
theorem oB {σ : zJ} {o : Oper} {d : Option Tmp} {x : AV} {K : zJ → Prop} (h1 : ∀ t, d = some t → t ∉ o.looksAt ops.toArray) (h2 : ∀ t, d = some t → o.dst ≠ some t)
  (h : XL P G m ops o (σ.put d x) K) : XL P G m ops o σ fun σ' => yN m o.dst σ σ' ∧ K (σ'.put d x) := by
 unfold XL at h ⊢
 split at h
 ·exact Np (tr h1) h2 h
 ·rename_i j want hg
  rw [OU (uZ h1 hg)] at h
  split at h
  ·rename_i g _
   cases hc : G.conc && !g with
   | true =>
    rw [hc] at h
    exact Z9 (yN.refl none σ) h2 h
   | false =>
    rw [hc] at h
    exact Lz (tr h1) h2 h
  omega
theorem Oy {σ : zJ} {o : Oper} {K K' : zJ → Prop} (hk : ∀ σ, K σ → K' σ) (h : Vb P G m σ o K) : Vb P G m σ o K' := by
 unfold Vb at h ⊢
 split at h
 ·grind
 ·split at h
  ·exact zb (hk _) h
  ·exact h
 ·exact h
 ·split at h
  ·exact h.elim
  ·rename_i hno
   rw [if_neg hno]
   split at h
   ·exact zb (hk _) h
   ·exact h
 ·split at h
  ·exact zb (hk _) h
  ·exact h
 ·split at h
  ·refine zb (fun h => ?_) h
   split at h
   ·rename_i hown
    rw [if_pos hown]
    exact Sd hk h
   ·rename_i hno
    rw [if_neg hno]
    split at h
    ·exact zb (hk _) h
    ·exact wq (fun r hr => hk _ hr) h
  ·exact h
 ·split at h
  ·split at h
   ·rename_i htt
    rw [if_pos htt]
    split at h
    ·exact h.elim
    ·rename_i hno
     rw [if_neg hno]
     split at h
     ·exact zb (hk _) h
     ·exact h
   simp_all
  ·exact h
 ·split at h
  ·exact zb (hk _) h
  ·exact h
theorem VY {g : Bool} {σ : zJ} {o : Oper} {K K' : zJ → Prop} (hk : ∀ σ, K σ → K' σ) (h : rY P G g σ o K) : rY P G g σ o K' := by
 unfold rY at h ⊢
 split at h
 ·split at h
  ·refine xW (fun h => ?_) h
   split at h
   ·rename_i hno
    rw [if_pos hno]
    split at h
    ·grind
    ·split at h
     ·rename_i hs
      rw [if_pos hs]
      exact Yu (fun r hr => hk _ hr) h
     simp_all
   ·rename_i hno
    rw [if_neg hno]
    exact wq (fun r hr => hk _ hr) h
  ·exact h
 ·split at h
  ·exact h.elim
  ·rename_i hno
   rw [if_neg hno]
   split at h
   ·exact xW (hk _) h
   ·exact h
 ·split at h
  ·exact xW (hk _) h
  ·exact h
theorem W5 {σ : zJ} {o : Oper} {K K' : zJ → Prop} (hk : ∀ σ, K σ → K' σ) (h : XL P G m ops o σ K) : XL P G m ops o σ K' := by
 unfold XL at h ⊢
 split at h
 ·exact Oy hk h
 ·split at h
  ·rename_i g _
   cases hc : G.conc && !g with
   | true => simp_all
   | false => rw [hc] at h; exact VY hk h
  ·exact h
theorem ta {σ : zJ} {xs : List AV} (h : ¬ (xs.any AV.hasOwn) = true) : Y6 σ xs = some (σ, xs) := by unfold Y6; rw [if_neg h]
theorem NG {σ : zJ} {o : Oper} {K : zJ → Prop} (h : Vb P G m σ o K) : ju P G σ o K := by
 unfold Vb at h
 unfold ju
 split at h
 ·grind
 ·grind
 ·exact h.elim
 ·rename_i ho
  simp only [ho]
  split at h
  ·exact h.elim
  ·rename_i hno
   rw [rn hno, ta fun h => hno (by rw [h]; rfl)]
   exact h
 ·grind
 ·rename_i ho
  simp only [ho]
  split at h
  ·rename_i hf
   simp only [hf]
   refine zb (fun h => ?_) h
   split at h
   ·rename_i hown
    unfold Wy
    rw [if_pos hown]
    unfold Xk at h
    split at h
    ·exact h.elim
    ·rename_i ho0
     rw [ho0]
     simp only
     split at h
     ·simp_all
     ·exact h.elim
   ·rename_i hno
    unfold Wy
    rw [if_neg hno]
    split at h
    ·simp_all
    rename_i he
    rw [he]
    unfold wN at h
    split at h
    ·exact h.elim
    ·exact h
  ·exact h.elim
 ·rename_i ho
  simp only [ho]
  split at h
  ·rename_i ha ht
   simp only [ha, ht]
   split at h
   ·split at h
    ·exact h.elim
    grind
   ·exact h.elim
  simp_all
 grind
theorem nW {g : Bool} {σ : zJ} {o : Oper} {K : zJ → Prop} (h : rY P G g σ o K) : ry P G g σ o K := by
 unfold ry
 split
 ·rename_i ho
  split
  ·rename_i hf
   split
   ·rename_i hi
    unfold rY at h
    simp only [ho, hf, yM] at h
    obtain ⟨h1, h2⟩ := h
    unfold wN at h2
    rw [hi] at h2
    cases g with
    | true => split at h2 <;> exact h2.elim
    | false => split at h2 <;> exact h2
   ·exact h
  ·rename_i hf
   unfold rY at h
   simp only [ho, hf] at h
   exact h.elim
  ·exact h
 ·exact h
theorem sT {σ : zJ} {o : Oper} {K : zJ → Prop} (h : XL P G m ops o σ K) : TW P G ops o σ K := by
 unfold XL at h
 unfold TW
 cases hg : o.guard with
 | none => rw [hg] at h; exact NG h
 | some jw =>
  rw [hg] at h
  simp only at h ⊢
  split at h
  ·rename_i g hga
   simp only [hga]
   cases hc : G.conc && !g with
   | true => simp_all
   | false => rw [hc] at h; exact nW h
  simp_all
end
end Go.Sx
