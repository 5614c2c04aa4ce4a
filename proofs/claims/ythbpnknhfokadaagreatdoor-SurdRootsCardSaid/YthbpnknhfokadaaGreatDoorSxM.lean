/- Regions whose operations come in any order: what only computes or reads may be taken first. -/
import Derived.Test.YthbpnknhfokadaaGreatDoorSxK
set_option linter.unusedSimpArgs false
set_option linter.unusedVariables false
namespace Go.Sx
open Go Go.RowKit
def AV.top : AV → Option Nat
 | .np k _ | .ns k _ _ | .ap k _ _ | .ps k _ => some k
 | _ => none
section
variable {P : Program} {bl bl' : Nat → OB}
theorem sd {sh : Option Nat} {x : AV} (h : ∀ k, x.top = some k → bl' k = bl k) : xU bl' sh x = xU bl sh x := by
 cases x <;> simp only [xU] <;> rw [h _ rfl]
theorem Rt {x : AV} (h : ∀ k, x.top = some k → bl' k = bl k) : WW bl' x = WW bl x := by
 cases x <;> simp only [WW] <;> first | rw [h _ rfl] | (split <;> first | rfl | (rename_i e; cases e) | simp_all)
theorem rQ {P : Program} {bl bl' : Nat → OB} {s d : TypeId} {x : AV} (h : ∀ k, x.top = some k → bl' k = bl k) : tF P bl' s d x = tF P bl s d x := by
 have e : U6 bl' 1 x = U6 bl 1 x := by
  cases x <;> first | rfl | skip
  rename_i k off m
  unfold U6
  simp only [h k rfl]
 unfold tF
 rw [e]
theorem rN {x : AV} {d : Nat} (h : ∀ k, x.top = some k → bl' k = bl k) : x.shift bl' d = x.shift bl d := by
 cases x <;> simp only [AV.shift] <;> rw [h _ rfl]
theorem uZ {t : TypeId} {x ix : AV} (h : ∀ k, x.top = some k → bl' k = bl k) : Yc P bl' t x ix = Yc P bl t x ix := by
 unfold Yc
 split
 ·split
  ·cases x with
   | ns k off len => have e := h k rfl; cases P.info? _ <;> simp only [e]
   | ps k len => have e := h k rfl; cases P.info? _ <;> simp only [e]
   | _ => cases P.info? _ <;> rfl
  ·cases x with
   | ap k i j => have e := h k rfl; cases P.info? _ <;> cases j <;> simp only [e]
   | np k off => have e := h k rfl; cases P.info? _ <;> simp only [e]
   | _ => cases P.info? _ <;> rfl
  ·rfl
 ·rfl
theorem Rj {t : TypeId} {x : AV} {lo hi mx : Option AV} (h : ∀ k, x.top = some k → bl' k = bl k) : WK P bl' t x lo hi mx = WK P bl t x lo hi mx := by
 unfold WK
 rcases P.underlying t with _ | u
 ·rfl
 ·cases u with
  | string =>
   grind
  | slice e =>
   cases x with
   | ns k off len =>
    have e := h k rfl
    grind
   | xl => grind
   | _ => rfl
  | _ => rfl
theorem oV {t : TypeId} {x : AV} (h : ∀ k, x.top = some k → bl' k = bl k) : TX P bl' t x = TX P bl t x := by
 unfold TX
 rcases P.underlying t with _ | u
 ·rfl
 ·cases x with
  | ns k off len =>
   have e := h k rfl
   grind
  | v x => grind
  | _ => cases u <;> rfl
theorem mP {b : Builtin} {ts : List TypeId} {xs : List AV} (h : ∀ x ∈ xs, ∀ k, x.top = some k → bl' k = bl k) : Qk P bl' b ts xs = Qk P bl b ts xs := by
 unfold Qk
 split <;> first | rfl | exact oV (h _ (by simp))
theorem SD {x : AV} (h : ∀ k, x.top = some k → bl' k = bl k) : W6 bl' x = W6 bl x := by
 unfold W6
 cases x with
 | ns k off len => simp only [h k rfl]
 | _ => rfl
theorem Ra {op : BinOp} {t : TypeId} {x y : AV} (h1 : ∀ k, x.top = some k → bl' k = bl k) (h2 : ∀ k, y.top = some k → bl' k = bl k) : Ow P bl' op t x y = Ow P bl op t x y := by
 unfold Ow sW
 rw [SD h1]
 cases y with
 | np k' o' => simp only [h2 k' rfl]
 | v u =>
  grind
 | _ => rfl
theorem Vl {ob : List (Nat × Obj)} {ev ev' : Operand → AV} {o : Op} (he : ∀ x ∈ o.operands, ev' x = ev x) (hb : ∀ x ∈ o.operands, ∀ k, (ev x).strip.top = some k → bl' k = bl k) :
  yD P ob bl' ev' o = yD P ob bl ev o := by
 have hg : ((YK o).flatMap fun x => (ev' x).gprop) = (YK o).flatMap fun x => (ev x).gprop := by
  rw [List.flatMap_def, List.flatMap_def]
  congr 1
  refine List.map_congr_left fun x hx => ?_
  rw [he x]
  cases o <;> first | exact Array.mem_toList_iff.1 hx | cases hx
 have hr : ZJ P ob bl' ev' (fun x => (ev' x).strip) o = ZJ P ob bl ev (fun x => (ev x).strip) o := by
  have hm : ∀ l : List Operand, (∀ x ∈ l, x ∈ o.operands) → l.map (fun x => (ev' x).strip) = l.map fun x => (ev x).strip := fun l hl => List.map_congr_left fun x hx => by rw [he x (hl x hx)]
  have ho : ∀ l : Option Operand, (∀ x, l = some x → x ∈ o.operands) → l.map (fun x => (ev' x).strip) = l.map fun x => (ev x).strip := fun l hl => by
   cases l with
   | none => rfl
   | some x => simp only [Option.map_some, he x (hl x rfl)]
  cases o with
  | move x => simp only [ZJ, he x (by simp [Op.operands])]
  | assign x => simp only [ZJ, he x (by simp [Op.operands])]
  | pick c a b => simp only [ZJ, he c (by simp [Op.operands]), he a (by simp [Op.operands]), he b (by simp [Op.operands])]
  | load t x =>
   have h := hb x (by simp [Op.operands])
   simp only [ZJ, he x (by simp [Op.operands]), sd h]
  | nilCheck x =>
   have h := hb x (by simp [Op.operands])
   simp only [ZJ, he x (by simp [Op.operands]), Rt h]
  | binOp op t x y t' =>
   have h1 := hb x (by simp [Op.operands])
   have h2 := hb y (by simp [Op.operands])
   simp only [ZJ, he x (by simp [Op.operands]), he y (by simp [Op.operands]), Ra h1 h2]
  | build t parts =>
   have : (parts.toList.map fun p => (p.1, (ev' p.2).strip)) = parts.toList.map fun p => (p.1, (ev p.2).strip) := List.map_congr_left fun p hp => by
    rw [he p.2 (by simp only [Op.operands, List.mem_toArray, List.mem_map]; exact ⟨p, hp, rfl⟩)]
   simp only [ZJ, this]
  | unOp op t x => simp only [ZJ, he x (by simp [Op.operands])]
  | convert s d x =>
   have h := hb x (by simp [Op.operands])
   simp only [ZJ, he x (by simp [Op.operands]), rQ h]
  | makeFunc f a b =>
   simp only [ZJ, hm a.toList fun x hx => by simp only [Op.operands, Array.mem_append]; exact .inl (Array.mem_toList_iff.1 hx),
    hm b.toList fun x hx => by simp only [Op.operands, Array.mem_append]; exact .inr (Array.mem_toList_iff.1 hx)]
  | slice t x a b c =>
   have h := hb x (by simp [Op.operands])
   simp only [ZJ, he x (by simp [Op.operands]), Rj h, ho a fun x hx => by simp [Op.operands, hx], ho b fun x hx => by simp [Op.operands, hx],
    ho c fun x hx => by simp [Op.operands, hx]]
  | fieldAddr t x f =>
   have h := hb x (by simp [Op.operands])
   simp only [ZJ, he x (by simp [Op.operands]), rN h]
  | field t x f => simp only [ZJ, he x (by simp [Op.operands])]
  | indexAddr t x i =>
   have h := hb x (by simp [Op.operands])
   simp only [ZJ, he x (by simp [Op.operands]), he i (by simp [Op.operands]), uZ h]
  | index t x i => simp only [ZJ, he x (by simp [Op.operands]), he i (by simp [Op.operands])]
  | extract x i => simp only [ZJ, he x (by simp [Op.operands])]
  | call c =>
   obtain ⟨cal, args, ts⟩ := c
   cases cal with
   | builtin b =>
    have hin : ∀ x ∈ args.toList, x ∈ (Op.call ⟨.builtin b, args, ts⟩).operands := fun x hx => by simpa [Op.operands, Call.operands] using hx
    simp only [ZJ, hm _ hin]
    rw [mP]
    intro x hx k hk
    obtain ⟨y, hy, rfl⟩ := List.mem_map.1 hx
    exact hb y (hin y hy) k hk
   | _ => rfl
  | _ => rfl
 unfold yD
 rw [hr, hg]
end
def qn : Option Nat → Nat → Nat
 | none, n => n
 | some m, n => bif Nat.ble m n then m else n
theorem si (m n : Nat) : qn (some m) n = if m ≤ n then m else n := by
 show (bif Nat.ble m n then m else n) = _
 simp
theorem Nf {m : Option Nat} {n : Nat} : qn m n ≤ n := by
 cases m with
 | none => exact Nat.le_refl _
 | some m => rw [si]; split <;> omega
theorem me {m n : Nat} : qn (some m) n ≤ m := by rw [si]; split <;> omega
theorem mb {m : Option Nat} {n n' : Nat} (h : n ≤ n') : qn m n ≤ qn m n' := by
 cases m with
 | none => exact h
 | some m => rw [si, si]; split <;> split <;> omega
structure yK (m : Option Nat) (d : Option Tmp) (σ σ' : zi) : Prop where
 n : σ'.n = σ.n
 nb : σ.nb ≤ σ'.nb
 bl : ∀ k, k < qn m σ.nb → σ'.bl k = σ.bl k
 tm : ∀ t, d ≠ some t → σ'.tm t = σ.tm t
theorem yK.refl {m : Option Nat} (d : Option Tmp) (σ : zi) : yK m d σ σ := ⟨rfl, Nat.le_refl _, fun _ _ => rfl, fun _ _ => rfl⟩
theorem yK.put {m : Option Nat} {σ σ' : zi} (h : yK m none σ σ') (d : Option Tmp) (x : AV) : yK m d σ (σ'.put d x) := by
 cases d with
 | none => exact h
 | some d => exact ⟨h.n, h.nb, h.bl, fun t ht => (zK _ _ fun e => ht (by rw [e])).trans (h.tm t (by simp))⟩
theorem yK.add {m : Option Nat} (σ : zi) (B : OB) : yK m none σ (σ.add B) :=
 ⟨rfl, Nat.le_succ _, fun _ hk => zK _ _ (Nat.ne_of_lt (Nat.lt_of_lt_of_le hk Nf)), fun _ _ => rfl⟩
theorem Xh (σ : zi) (d : Option Tmp) (x : AV) : (σ.put d x).nb = σ.nb := by cases d <;> rfl
theorem wX (σ : zi) (d : Option Tmp) (x : AV) : (σ.put d x).bl = σ.bl := by cases d <;> rfl
theorem x5 (σ : zi) (d : Option Tmp) (x : AV) (B : OB) : (σ.put d x).add B = (σ.add B).put d x := by cases d <;> rfl
theorem put_comm {σ : zi} {d d' : Option Tmp} {x y : AV} (h : ∀ t, d = some t → d' ≠ some t) : (σ.put d x).put d' y = (σ.put d' y).put d x := by
 cases d with
 | none => rfl
 | some d => cases d' with
  | none => rfl
  | some d' =>
   simp only [zi.put, zi.mk.injEq, true_and, and_true]
   funext t
   by_cases h1 : t = d'
   ·subst h1
    rw [upd_same, zK _ _ (fun e => h d rfl (by rw [e])), upd_same]
   ·rw [zK _ _ h1]
    by_cases h2 : t = d
    ·subst h2; rw [upd_same, upd_same]
    ·rw [zK _ _ h2, zK _ _ h2, zK _ _ h1]
theorem yK.ev {m : Option Nat} {σ σ' : zi} {d : Option Tmp} (h : yK m d σ σ') {x : Operand} (hx : ∀ t, x = .tmp t → d ≠ some t) : σ'.ev x = σ.ev x := by
 cases x with
 | tmp t => simp only [zi.ev, h.n, h.tm t (hx t rfl)]
 | _ => rfl
theorem Ni {σ : zi} {d : Option Tmp} {v : AV} {x : Operand} (hx : ∀ t, x = .tmp t → d ≠ some t) : (σ.put d v).ev x = σ.ev x := ((yK.refl (m := none) none σ).put d v).ev hx
def Ta : Option Nat → AV → Bool
 | some m, .ns k _ _ => Nat.ble m k
 | _, _ => false
def XL (P : Program) (G : Cx) (σ : zi) (o : Oper) (f : FuncId) (xs : List AV) (k : zi → Prop) : Prop :=
 match G.own f with
 | some _ => ZE o
 | none =>
  match Wy P G f (xs.map (lend σ.bl)) o.type with
  | true => xC P G none f (xs.map (lend σ.bl)) o.type fun r => k (σ.put o.dst r)
  | false => ZE o
def Ve (P : Program) (G : Cx) (m : Option Nat) (σ : zi) (o : Oper) (k : zi → Prop) : Prop :=
 match o.op with
 | .alloc elem =>
  match xi P σ elem with
  | some (σ', r) => k (σ'.put o.dst r)
  | none => ZE o
 | .box t x =>
  match w9 σ t (σ.sv x) with
  | some (σ', r) => YI (σ.ev x).gprop (k (σ'.put o.dst r))
  | none => ZE o
 | .store _ _ _ => ZE o
 | .buildSlice t len parts =>
  if ((parts.toList.map fun p => σ.sv p.2).any AV.hasOwn || VU (parts.toList.map (·.2))) = true then ZE o
  else
   match Zj P σ t len (parts.toList.map (·.1)) (parts.toList.map fun p => σ.sv p.2) with
   | some (σ', r) => YI (Zc σ (parts.toList.map (·.2))) (k (σ'.put o.dst r))
   | none => ZE o
 | .makeSlice t l c =>
  match yj P σ t (σ.sv l) (σ.sv c) with
  | some (ps, σ', r) => YI ((σ.ev l).gprop ++ (σ.ev c).gprop ++ ps) (k (σ'.put o.dst r))
  | none => ZE o
 | .call { callee := .value f, args, .. } =>
  match σ.sv f with
  | .fn (.func fid) nf first nc cap =>
   YI ((σ.ev f).gprop ++ Zc σ args.toList) <|
    if (y9 nf first (args.toList.map σ.sv) nc cap).any AV.hasOwn then XL P G σ o fid (y9 nf first (args.toList.map σ.sv) nc cap) k
    else
     match Y6 G σ fid (y9 nf first (args.toList.map σ.sv) nc cap) with
     | some (ps, σ', r) => YI ps (k (σ'.put o.dst r))
     | none => wM P G none fid (y9 nf first (args.toList.map σ.sv) nc cap) o.type fun r => k (σ.put o.dst r)
  | _ => ZE o
 | .call { callee := .builtin .append, args, argTypes } =>
  match args.toList, argTypes.toList with
  | [s, x], [t, t'] =>
   if t = t' then
    if ((σ.sv s).hasOwn && !Ta m (σ.sv s)) = true then ZE o
    else
     match YY P σ t (σ.sv s) (σ.sv x) with
     | some (ps, σ', r) => YI ((σ.ev s).gprop ++ (σ.ev x).gprop ++ ps) (k (σ'.put o.dst r))
     | none => ZE o
   else ZE o
  | _, _ => ZE o
 | op =>
  match yD P G.objs σ.bl σ.ev op with
  | some (ps, r) => YI ps (k (σ.put o.dst r))
  | none => ZE o
def XK (P : Program) (G : Cx) (m : Option Nat) (ops : List Oper) (o : Oper) (σ : zi) (k : zi → Prop) : Prop :=
 match o.guard with
 | none => Ve P G m σ o k
 | some (j, want) =>
  match YW ops σ j want with
  | some g =>
   match G.conc && !g with
   | true => k (σ.put o.dst (.gd false (tU P o.type)))
   | false => Sb P G g σ o k
  | none => ZE o
end Go.Sx

namespace Go.Sx
open Go Go.RowKit
section
variable {P : Program} {G : Cx} {m : Option Nat} {ops : List Oper}
theorem tk {σ σ' : zi} {e : TypeId} {r : AV} (h : xi P σ e = some (σ', r)) : yK m none σ σ' ∧ ∀ (d : Option Tmp) (x : AV), xi P (σ.put d x) e = some (σ'.put d x, r) := by
 unfold xi at h ⊢
 repeat' split at h
 all_goals first | cases h | skip
 ·rename_i hc
  refine ⟨yK.add _ _, fun d x => ?_⟩
  simp only [x5, Xh, if_pos hc]
 ·rename_i hn hc
  refine ⟨yK.add _ _, fun d x => ?_⟩
  simp only [x5, Xh, if_neg hn, if_pos hc]
 ·rename_i hc
  refine ⟨yK.add _ _, fun d x => ?_⟩
  simp only [x5, Xh, if_pos hc]
theorem RO {σ σ' : zi} {t : TypeId} {v r : AV} (h : w9 σ t v = some (σ', r)) : yK m none σ σ' ∧ ∀ (d : Option Tmp) (x : AV), w9 (σ.put d x) t v = some (σ'.put d x, r) := by
 unfold w9 at h ⊢
 split at h
 ·rename_i n cs hc
  cases h
  exact ⟨yK.add _ _, fun d x => by simp only [wX, Xh, x5, hc]⟩
 ·cases h
theorem tP {σ σ' : zi} {t : TypeId} {n : Nat} {idx : List Nat} {xs : List AV} {r : AV} (h : Zj P σ t n idx xs = some (σ', r)) :
  yK m none σ σ' ∧ ∀ (d : Option Tmp) (x : AV), Zj P (σ.put d x) t n idx xs = some (σ'.put d x, r) := by
 obtain ⟨rfl, h2⟩ := Yn h
 exact ⟨yK.refl _ _, fun d x => h2 _⟩
theorem Sl {σ σ' : zi} {t : TypeId} {l c r : AV} {ps : List zk} (h : yj P σ t l c = some (ps, σ', r)) :
  yK m none σ σ' ∧ ∀ (d : Option Tmp) (x : AV), yj P (σ.put d x) t l c = some (ps, σ'.put d x, r) := by
 unfold yj at h ⊢
 repeat' split at h
 all_goals first | cases h | skip
 rename_i hc
 refine ⟨yK.add _ _, fun d x => ?_⟩
 simp only [x5, Xh, if_pos hc]
theorem rX {G : Cx} {σ σ' : zi} {f : FuncId} {xs : List AV} {r : AV} {ps : List zk} (h : Y6 G σ f xs = some (ps, σ', r)) :
  yK m none σ σ' ∧ ∀ d x, Y6 G (σ.put d x) f xs = some (ps, σ'.put d x, r) := by
 unfold Y6 at h ⊢
 split at h
 ·rename_i hf
  cases h
  exact ⟨yK.add _ _, fun d x => by simp only [x5, Xh]⟩
 ·cases h
theorem Rq {G : Cx} {σ : zi} {d : Option Tmp} {x : AV} {f : FuncId} {xs : List AV} (h : Y6 G (σ.put d x) f xs = none) : Y6 G σ f xs = none := by
 unfold Y6 at h ⊢
 grind
theorem pD {m : Option Nat} {x : AV} (h : ¬ ((x.hasOwn && !Ta m x) = true)) : x.hasOwn = false ∨ Ta m x = true := by
 grind
theorem w5 {σ σ' : zi} {t : TypeId} {s v r : AV} {ps : List zk} (hs : s.hasOwn = false ∨ Ta m s = true) (h : YY P σ t s v = some (ps, σ', r)) :
  yK m none σ σ' ∧ ∀ (d : Option Tmp) (x : AV), YY P (σ.put d x) t s v = some (ps, σ'.put d x, r) := by
 unfold YY at h ⊢
 repeat' split at h
 all_goals first | cases h | skip
 ·refine ⟨yK.add _ _, fun d x => ?_⟩
  simp only [x5, Xh, wX]
  simp_all
 ·refine ⟨⟨rfl, Nat.le_refl _, fun k' _ => rfl, fun _ _ => rfl⟩, fun d x => ?_⟩
  simp only [wX]
  simp_all
 ·refine ⟨yK.add _ _, fun d x => ?_⟩
  simp only [x5, Xh, wX]
  simp_all
 ·rename_i k n _ _ _ _ _ _ hcc
  have hm : ∀ k', k' < qn m σ.nb → k' ≠ k := by
   rcases hs with hs | hs
   ·cases hs
   ·cases m with
    | none => cases hs
    | some m' =>
     have h1 : m' ≤ k := Nat.le_of_ble_eq_true hs
     intro k' hk'
     have := me (m := m') (n := σ.nb)
     omega
  refine ⟨⟨rfl, Nat.le_succ _, fun k' hk' => ?_, fun _ _ => rfl⟩, fun d x => ?_⟩
  ·show upd (upd σ.bl k .dead) σ.nb _ k' = _
   rw [zK _ _ (Nat.ne_of_lt (Nat.lt_of_lt_of_le hk' Nf)), zK _ _ (hm k' hk')]
  ·simp only [Xh, wX]
   cases d <;> simp_all [zi.put]
def old (σ : zi) : Option Tmp → AV
 | some t => σ.tm t
 | none => .junk
theorem pX (σ : zi) (d : Option Tmp) (x : AV) : (σ.put d x).put d (old σ d) = σ := by
 cases d with
 | none => rfl
 | some d =>
  obtain ⟨n, tm, nb, bl⟩ := σ
  simp only [zi.put, old, zi.mk.injEq, true_and, and_true]
  funext t
  by_cases h : t = d
  ·subst h; rw [upd_same]
  ·rw [zK _ _ h, zK _ _ h]
theorem Mw {f : zi → Option (zi × AV)} (hf : ∀ σ σ' r, f σ = some (σ', r) → yK m none σ σ' ∧ ∀ d x, f (σ.put d x) = some (σ'.put d x, r)) {σ σ1 : zi} {d : Option Tmp} {x r : AV}
  (h : f (σ.put d x) = some (σ1, r)) : ∃ σ', f σ = some (σ', r) ∧ yK m none σ σ' ∧ σ1 = σ'.put d x := by
 obtain ⟨h1, h2⟩ := hf _ _ _ h
 have h3 := h2 d (old σ d)
 rw [pX] at h3
 grind
theorem NP {f : zi → Option (List zk × zi × AV)} (hf : ∀ σ ps σ' r, f σ = some (ps, σ', r) → yK m none σ σ' ∧ ∀ d x, f (σ.put d x) = some (ps, σ'.put d x, r)) {σ σ1 : zi} {d : Option Tmp} {x r : AV} {ps : List zk}
  (h : f (σ.put d x) = some (ps, σ1, r)) : ∃ σ', f σ = some (ps, σ', r) ∧ yK m none σ σ' ∧ σ1 = σ'.put d x := by
 obtain ⟨h1, h2⟩ := hf _ _ _ _ h
 have h3 := h2 d (old σ d)
 rw [pX] at h3
 grind
theorem Z5 {σ σ' : zi} {d d' : Option Tmp} {x y : AV} {K : zi → Prop} (h : yK m none σ σ') (hd : ∀ t, d = some t → d' ≠ some t) (hK : K ((σ'.put d x).put d' y)) :
  yK m d' σ (σ'.put d' y) ∧ K ((σ'.put d' y).put d x) := ⟨h.put d' y, by rw [put_comm hd] at hK; exact hK⟩
theorem PI {σ : zi} {d : Option Tmp} {x : AV} {j : Nat} {want : Bool} (h : ∀ t, d = some t → (ops[j]?).bind (·.dst) ≠ some t) : YW ops (σ.put d x) j want = YW ops σ j want := by
 unfold YW
 cases ho : ops[j]? with
 | none => rfl
 | some o =>
  simp only
  cases hd : o.dst with
  | none => rfl
  | some t =>
   simp only
   cases d with
   | none => rfl
   | some d =>
    have hne : t ≠ d := fun e => h d rfl (by rw [ho, Option.bind_some, hd, e])
    simp only [zi.put, zK _ _ hne]
theorem V7 {ex : TypeId → (AV → Prop) → Prop} (hex : ∀ t k k', (∀ r, k r → k' r) → ex t k → ex t k') : ∀ (ts : List TypeId) (k k' : List AV → Prop), (∀ r, k r → k' r) → wB ex ts k → wB ex ts k'
 | [], _, _, h, hk => h _ hk
 | _ :: ts, _, _, h, hk => hex _ _ _ (fun _ hv => V7 hex ts _ _ (fun _ hr => h _ hr) hv) hk
theorem Tf : ∀ (n : Nat) (t : TypeId) (k k' : AV → Prop), (∀ r, k r → k' r) → uX P n t k → uX P n t k'
 | 0, _, _, _, h, ⟨r, hr⟩ => ⟨r, h _ hr⟩
 | n + 1, t, k, k', h, hk => by
  unfold uX at hk ⊢
  split at hk
  ·grind
  ·grind
  ·grind
  ·grind
  ·exact V7 (Tf n) _ _ _ (fun r hr => h _ hr) hk
  grind
theorem zA {ps : List zk} {k k' : Prop} (h : k → k') (hp : YI ps k) : YI ps k' := by
 rw [Zn] at hp ⊢
 simp_all
theorem xX {g : Bool} {ps : List zk} {k k' : Prop} (h : k → k') (hp : Rh g ps k) : Rh g ps k' := by
 rw [yi] at hp ⊢
 simp_all
theorem ug {o : Oper} {d : Option Tmp} (h : ∀ t, d = some t → t ∉ o.looksAt ops.toArray) : ∀ x ∈ o.op.operands, ∀ t, x = .tmp t → d ≠ some t := fun x hx t hxt hd =>
 h t hd (List.mem_append_left _ (List.mem_filterMap.2 ⟨x, Array.mem_toList_iff.2 hx, by rw [hxt]⟩))
theorem V3 {o : Oper} {d : Option Tmp} {j : Nat} {want : Bool} (h : ∀ t, d = some t → t ∉ o.looksAt ops.toArray) (hg : o.guard = some (j, want)) :
  ∀ t, d = some t → (ops[j]?).bind (·.dst) ≠ some t := fun t hd he =>
 h t hd (List.mem_append_right _ (by rw [hg]; simp only [List.getElem?_toArray]; rw [he]; simp))
theorem tr {g : Option Bool} {ps : List zk} {k k' : Prop} (h : k → k') (hp : mO g ps k) : mO g ps k' := by
 cases g with
 | none => exact zA h hp
 | some g => exact xX h hp
theorem YT {P : Program} {G : Cx} {g : Option Bool} {f : FuncId} {xs : List AV} {t : TypeId} {K K' : AV → Prop} (h : ∀ r, K r → K' r) (hk : xC P G g f xs t K) : xC P G g f xs t K' := by
 unfold xC at hk ⊢
 split at hk
 ·exact tr (h _) hk
 ·exact Tf 3 _ _ _ (fun r hr => ⟨hr.1, h r hr.2⟩) hk
theorem wV {P : Program} {G : Cx} {g : Option Bool} {f : FuncId} {xs : List AV} {t : TypeId} {K K' : AV → Prop} (h : ∀ r, K r → K' r) (hk : wM P G g f xs t K) : wM P G g f xs t K' := by
 unfold wM at hk ⊢
 split at hk
 ·grind
 ·exact YT h hk
theorem Ym {σ σ' : zi} {l : List Operand} (h : ∀ x ∈ l, σ'.ev x = σ.ev x) : Zc σ' l = Zc σ l := by
 unfold Zc
 rw [List.flatMap_def, List.flatMap_def]
 congr 1
 simp_all
theorem Ys {σ σ' : zi} {x : Operand} (h : σ'.ev x = σ.ev x) : σ'.sv x = σ.sv x := by unfold zi.sv; rw [h]
theorem rq {σ : zi} {o : Oper} {d : Option Tmp} {x : AV} {f : FuncId} {xs : List AV} {K : zi → Prop} (h2 : ∀ t, d = some t → o.dst ≠ some t) (h : XL P G (σ.put d x) o f xs K) :
  XL P G σ o f xs fun σ' => yK m o.dst σ σ' ∧ K (σ'.put d x) := by
 unfold XL at h ⊢
 simp only [wX, Xh, x5] at h
 split at h
 ·exact h.elim
 ·split at h
  ·exact YT (fun r hk => Z5 (yK.refl none σ) h2 hk) h
  omega
theorem sQ {σ : zi} {o : Oper} {f : FuncId} {xs : List AV} {K K' : zi → Prop} (hk : ∀ σ, K σ → K' σ) (h : XL P G σ o f xs K) : XL P G σ o f xs K' := by
 unfold XL at h ⊢
 split at h
 ·exact h.elim
 ·split at h
  ·exact YT (fun r h => hk _ h) h
  omega
theorem MW {σ : zi} {o : Oper} {d : Option Tmp} {x : AV} {K : zi → Prop} (h1 : ∀ x ∈ o.op.operands, ∀ t, x = .tmp t → d ≠ some t) (h2 : ∀ t, d = some t → o.dst ≠ some t)
  (h : Ve P G m (σ.put d x) o K) : Ve P G m σ o fun σ' => yK m o.dst σ σ' ∧ K (σ'.put d x) := by
 have hev : ∀ y ∈ o.op.operands, (σ.put d x).ev y = σ.ev y := fun y hy => Ni (h1 y hy)
 have hsv : ∀ y ∈ o.op.operands, (σ.put d x).sv y = σ.sv y := fun y hy => Ys (hev y hy)
 have gr : ∀ r, K ((σ.put d x).put o.dst r) → yK m o.dst σ (σ.put o.dst r) ∧ K ((σ.put o.dst r).put d x) := fun r hk => Z5 (yK.refl none σ) h2 hk
 unfold Ve at h ⊢
 split at h
 ·rename_i e ho
  simp only
  split at h
  ·rename_i σ1 r he
   obtain ⟨σ', g1, g2, rfl⟩ := Mw (f := fun σ => xi P σ e) (fun _ _ _ h => tk h) he
   simp only [g1]
   exact Z5 g2 h2 h
  ·exact h.elim
 ·rename_i t y ho
  have e1 := hev y (by rw [ho]; simp [Op.operands])
  have e2 := hsv y (by rw [ho]; simp [Op.operands])
  simp only [e1, e2] at h
  simp only
  split at h
  ·rename_i σ1 r he
   obtain ⟨σ', g1, g2, rfl⟩ := Mw (f := fun s => w9 s t (σ.sv y)) (fun _ _ _ h => RO h) he
   simp only [g1]
   exact zA (Z5 g2 h2) h
  ·exact h.elim
 ·exact h.elim
 ·rename_i t n parts ho
  have hin : ∀ p ∈ parts.toList, p.2 ∈ o.op.operands := fun p hp => by rw [ho]; simp only [Op.operands, List.mem_toArray, List.mem_map]; exact ⟨p, hp, rfl⟩
  have e1 : (parts.toList.map fun p => (σ.put d x).sv p.2) = parts.toList.map fun p => σ.sv p.2 := List.map_congr_left fun p hp => hsv _ (hin p hp)
  have e2 : Zc (σ.put d x) (parts.toList.map (·.2)) = Zc σ (parts.toList.map (·.2)) := Ym fun y hy => by
   obtain ⟨p, hp, rfl⟩ := List.mem_map.1 hy
   exact hev _ (hin p hp)
  simp only [e1, e2] at h
  simp only
  split at h
  ·exact h.elim
  ·rename_i hno
   rw [if_neg hno]
   split at h
   ·rename_i σ1 r he
    obtain ⟨σ', g1, g2, rfl⟩ := Mw (f := fun s => Zj P s t n (parts.toList.map fun p : Nat × Operand => p.1) (parts.toList.map fun p : Nat × Operand => σ.sv p.2)) (fun _ _ _ h => tP h) he
    simp only [g1]
    exact zA (Z5 g2 h2) h
   ·exact h.elim
 ·rename_i t l c ho
  have e1 := hev l (by rw [ho]; simp [Op.operands])
  have e2 := hev c (by rw [ho]; simp [Op.operands])
  simp only [e1, e2, Ys e1, Ys e2] at h
  simp only
  split at h
  ·rename_i ps σ1 r he
   obtain ⟨σ', g1, g2, rfl⟩ := NP (f := fun s => yj P s t (σ.sv l) (σ.sv c)) (fun _ _ _ _ h => Sl h) he
   simp only [g1]
   exact zA (Z5 g2 h2) h
  ·exact h.elim
 ·rename_i f args ts ho
  have e1 := hev f (by rw [ho]; simp [Op.operands, Call.operands])
  have hin : ∀ y ∈ args.toList, y ∈ o.op.operands := fun y hy => by rw [ho]; simp only [Op.operands, Call.operands, Array.mem_append]; exact .inr (Array.mem_toList_iff.1 hy)
  have e2 : args.toList.map (σ.put d x).sv = args.toList.map σ.sv := List.map_congr_left fun y hy => hsv _ (hin y hy)
  have e3 : Zc (σ.put d x) args.toList = Zc σ args.toList := Ym fun y hy => hev _ (hin y hy)
  simp only [e1, e2, e3, Ys e1] at h
  simp only
  split at h
  ·refine zA (fun h => ?_) h
   split at h
   ·rename_i hown
    rw [if_pos hown]
    exact rq h2 h
   ·rename_i hno
    rw [if_neg hno]
    split at h
    ·rename_i ps σ1 r he
     obtain ⟨σ', g1, g2, rfl⟩ := NP (f := fun u => Y6 G u _ _) (fun _ _ _ _ h => rX h) he
     simp only [g1]
     exact zA (Z5 g2 h2) h
    ·rename_i he
     rw [Rq he]
     exact wV gr h
  ·exact h.elim
 ·rename_i args ts ho
  have hin : ∀ y ∈ args.toList, y ∈ o.op.operands := fun y hy => by rw [ho]; simp only [Op.operands, Call.operands, Array.mem_append]; exact .inr (Array.mem_toList_iff.1 hy)
  simp only
  split at h
  ·rename_i s y t t' ha ht
   have e1 := hev s (hin s (by rw [ha]; simp))
   have e2 := hev y (hin y (by rw [ha]; simp))
   simp only [e1, e2, Ys e1, Ys e2] at h
   split at h
   ·rename_i htt
    rw [if_pos htt]
    split at h
    ·exact h.elim
    ·rename_i hno
     rw [if_neg hno]
     split at h
     ·rename_i ps σ1 r he
      obtain ⟨σ', g1, g2, rfl⟩ := NP (f := fun u => YY P u t (σ.sv s) (σ.sv y)) (fun _ _ _ _ h => w5 (pD hno) h) he
      simp only [g1]
      exact zA (Z5 g2 h2) h
     ·rename_i he0
      have e0 : YY P σ t (σ.sv s) (σ.sv y) = none := by
       cases h0 : YY P σ t (σ.sv s) (σ.sv y) with
       | none => rfl
       | some q =>
        obtain ⟨ps, σ1, r⟩ := q
        rw [(w5 (pD hno) h0).2 d x] at he0
        cases he0
      exact h.elim
   ·exact h.elim
  ·exact h.elim
 ·have e : yD P G.objs (σ.put d x).bl (σ.put d x).ev o.op = yD P G.objs σ.bl σ.ev o.op := Vl hev fun _ _ _ _ => by rw [wX]
  rw [e] at h
  split at h
  ·rename_i ps r he
   exact zA (gr r) h
  ·exact h.elim
theorem kO {g : Bool} {σ : zi} {o : Oper} {d : Option Tmp} {x : AV} {K : zi → Prop} (h1 : ∀ x ∈ o.op.operands, ∀ t, x = .tmp t → d ≠ some t) (h2 : ∀ t, d = some t → o.dst ≠ some t)
  (h : Sb P G g (σ.put d x) o K) : Sb P G g σ o fun σ' => yK m o.dst σ σ' ∧ K (σ'.put d x) := by
 have hev : ∀ y ∈ o.op.operands, (σ.put d x).ev y = σ.ev y := fun y hy => Ni (h1 y hy)
 have hsv : ∀ y ∈ o.op.operands, (σ.put d x).sv y = σ.sv y := fun y hy => Ys (hev y hy)
 have gr : ∀ r, K ((σ.put d x).put o.dst r) → yK m o.dst σ (σ.put o.dst r) ∧ K ((σ.put o.dst r).put d x) := fun r hk => Z5 (yK.refl none σ) h2 hk
 unfold Sb at h ⊢
 split at h
 ·rename_i f args ts ho
  have e1 := hev f (by rw [ho]; simp [Op.operands, Call.operands])
  have hin : ∀ y ∈ args.toList, y ∈ o.op.operands := fun y hy => by rw [ho]; simp only [Op.operands, Call.operands, Array.mem_append]; exact .inr (Array.mem_toList_iff.1 hy)
  have e2 : args.toList.map (σ.put d x).sv = args.toList.map σ.sv := List.map_congr_left fun y hy => hsv _ (hin y hy)
  have e3 : Zc (σ.put d x) args.toList = Zc σ args.toList := Ym fun y hy => hev _ (hin y hy)
  simp only [e1, e2, e3, Ys e1, wX] at h
  simp only
  split at h
  ·refine xX (fun h => ?_) h
   split at h
   ·rename_i hno
    rw [if_pos hno]
    split at h
    ·split at h
     ·exact gr _ h
     ·exact h.elim
    ·split at h
     ·rename_i hs
      rw [if_pos hs]
      exact YT (fun r hr => gr _ hr) h
     ·exact h.elim
   ·rename_i hno
    rw [if_neg hno]
    exact wV (fun r hr => gr _ hr) h
  ·exact h.elim
 ·rename_i tb lb parts ho
  have hin : ∀ p ∈ parts.toList, p.2 ∈ o.op.operands := fun p hp => by rw [ho]; simp only [Op.operands, List.mem_toArray, List.mem_map]; exact ⟨p, hp, rfl⟩
  have e1 : (parts.toList.map fun p => (σ.put d x).sv p.2) = parts.toList.map fun p => σ.sv p.2 := List.map_congr_left fun p hp => hsv _ (hin p hp)
  have e2 : Zc (σ.put d x) (parts.toList.map (·.2)) = Zc σ (parts.toList.map (·.2)) := Ym fun y hy => by
   obtain ⟨p, hp, rfl⟩ := List.mem_map.1 hy
   exact hev _ (hin p hp)
  rw [e1, e2] at h
  split at h
  ·exact h.elim
  ·rename_i hno
   rw [if_neg hno]
   split at h
   ·rename_i σ1 r he
    rw [(Yn he).2 σ]
    exact xX (gr _) h
   ·exact h.elim
 ·have e : yD P G.objs (σ.put d x).bl (σ.put d x).ev o.op = yD P G.objs σ.bl σ.ev o.op := Vl hev fun _ _ _ _ => by rw [wX]
  rw [e] at h
  split at h
  ·exact xX (gr _) h
  ·exact h.elim
theorem oW {σ : zi} {o : Oper} {d : Option Tmp} {x : AV} {K : zi → Prop} (h1 : ∀ t, d = some t → t ∉ o.looksAt ops.toArray) (h2 : ∀ t, d = some t → o.dst ≠ some t)
  (h : XK P G m ops o (σ.put d x) K) : XK P G m ops o σ fun σ' => yK m o.dst σ σ' ∧ K (σ'.put d x) := by
 unfold XK at h ⊢
 split at h
 ·exact MW (ug h1) h2 h
 ·rename_i j want hg
  rw [PI (V3 h1 hg)] at h
  split at h
  ·rename_i g _
   cases hc : G.conc && !g with
   | true =>
    rw [hc] at h
    exact Z5 (yK.refl none σ) h2 h
   | false =>
    rw [hc] at h
    exact kO (ug h1) h2 h
  omega
theorem od {σ : zi} {o : Oper} {K K' : zi → Prop} (hk : ∀ σ, K σ → K' σ) (h : Ve P G m σ o K) : Ve P G m σ o K' := by
 unfold Ve at h ⊢
 split at h
 ·grind
 ·split at h
  ·exact zA (hk _) h
  ·exact h
 ·exact h
 ·split at h
  ·exact h.elim
  ·rename_i hno
   rw [if_neg hno]
   split at h
   ·exact zA (hk _) h
   ·exact h
 ·split at h
  ·exact zA (hk _) h
  ·exact h
 ·split at h
  ·refine zA (fun h => ?_) h
   split at h
   ·rename_i hown
    rw [if_pos hown]
    exact sQ hk h
   ·rename_i hno
    rw [if_neg hno]
    split at h
    ·exact zA (hk _) h
    ·exact wV (fun r hr => hk _ hr) h
  ·exact h
 ·split at h
  ·split at h
   ·rename_i htt
    rw [if_pos htt]
    split at h
    ·exact h.elim
    ·rename_i hno
     rw [if_neg hno]
     split at h
     ·exact zA (hk _) h
     ·exact h
   simp_all
  ·exact h
 ·split at h
  ·exact zA (hk _) h
  ·exact h
theorem vj {g : Bool} {σ : zi} {o : Oper} {K K' : zi → Prop} (hk : ∀ σ, K σ → K' σ) (h : Sb P G g σ o K) : Sb P G g σ o K' := by
 unfold Sb at h ⊢
 split at h
 ·split at h
  ·refine xX (fun h => ?_) h
   split at h
   ·rename_i hno
    rw [if_pos hno]
    split at h
    ·grind
    ·split at h
     ·rename_i hs
      rw [if_pos hs]
      exact YT (fun r hr => hk _ hr) h
     simp_all
   ·rename_i hno
    rw [if_neg hno]
    exact wV (fun r hr => hk _ hr) h
  ·exact h
 ·split at h
  ·exact h.elim
  ·rename_i hno
   rw [if_neg hno]
   split at h
   ·exact xX (hk _) h
   ·exact h
 ·split at h
  ·exact xX (hk _) h
  ·exact h
theorem W3 {σ : zi} {o : Oper} {K K' : zi → Prop} (hk : ∀ σ, K σ → K' σ) (h : XK P G m ops o σ K) : XK P G m ops o σ K' := by
 unfold XK at h ⊢
 split at h
 ·exact od hk h
 ·split at h
  ·rename_i g _
   cases hc : G.conc && !g with
   | true => simp_all
   | false => rw [hc] at h; exact vj hk h
  ·exact h
theorem tg {σ : zi} {xs : List AV} (h : ¬ (xs.any AV.hasOwn) = true) : Y9 σ xs = some (σ, xs) := by unfold Y9; rw [if_neg h]
theorem N0 {σ : zi} {o : Oper} {K : zi → Prop} (h : Ve P G m σ o K) : K1 P G σ o K := by
 unfold Ve at h
 unfold K1
 split at h
 ·grind
 ·grind
 ·exact h.elim
 ·rename_i ho
  simp only [ho]
  split at h
  ·exact h.elim
  ·rename_i hno
   rw [sM hno, tg fun h => hno (by rw [h]; rfl)]
   exact h
 ·grind
 ·rename_i ho
  simp only [ho]
  split at h
  ·rename_i hf
   simp only [hf]
   refine zA (fun h => ?_) h
   split at h
   ·rename_i hown
    unfold we
    rw [if_pos hown]
    unfold XL at h
    split at h
    ·exact h.elim
    ·rename_i ho0
     rw [ho0]
     simp only
     split at h
     ·simp_all
     ·exact h.elim
   ·rename_i hno
    unfold we
    rw [if_neg hno]
    split at h
    ·simp_all
    rename_i he
    rw [he]
    unfold wM at h
    split at h
    ·exact h.elim
    ·exact h
  ·exact h.elim
 ·rename_i ho
  simp only [ho]
  split at h
  ·rename_i ha ht
   simp only [ha, ht]
   split at h
   ·split at h
    ·exact h.elim
    grind
   ·exact h.elim
  simp_all
 grind
theorem om {g : Bool} {σ : zi} {o : Oper} {K : zi → Prop} (h : Sb P G g σ o K) : SI P G g σ o K := by
 unfold SI
 split
 ·rename_i ho
  split
  ·rename_i hf
   split
   ·rename_i hi
    unfold Sb at h
    simp only [ho, hf, yi] at h
    obtain ⟨h1, h2⟩ := h
    unfold wM at h2
    rw [hi] at h2
    cases g with
    | true => split at h2 <;> exact h2.elim
    | false => split at h2 <;> exact h2
   ·exact h
  ·rename_i hf
   unfold Sb at h
   simp only [ho, hf] at h
   exact h.elim
  ·exact h
 ·exact h
theorem TU {σ : zi} {o : Oper} {K : zi → Prop} (h : XK P G m ops o σ K) : tJ P G ops o σ K := by
 unfold XK at h
 unfold tJ
 cases hg : o.guard with
 | none => rw [hg] at h; exact N0 h
 | some jw =>
  rw [hg] at h
  simp only at h ⊢
  split at h
  ·rename_i g hga
   simp only [hga]
   cases hc : G.conc && !g with
   | true => simp_all
   | false => rw [hc] at h; exact om h
  simp_all
end
end Go.Sx
