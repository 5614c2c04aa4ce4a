/- Regions whose operations come in any order: what only computes or reads may be taken first. -/
import Derived.Test.YtinnclmkhedgeaaGreatDoorSxK
set_option linter.unusedSimpArgs false
set_option linter.unusedVariables false
namespace Go.Sx
open Go Go.RowKit
def AV.top : AV → Option Nat
 | .np k _ | .ns k _ _ | .ap k _ _ | .ps k _ => some k
 | _ => none
section
variable {P : Program} {bl bl' : Nat → OB}
theorem V1 {sh : Option Nat} {x : AV} (h : ∀ k, x.top = some k → bl' k = bl k) : yt bl' sh x = yt bl sh x := by
 cases x <;> simp only [yt] <;> rw [h _ rfl]
theorem uw {x : AV} (h : ∀ k, x.top = some k → bl' k = bl k) : Y3 bl' x = Y3 bl x := by
 cases x <;> simp only [Y3] <;> first | rw [h _ rfl] | (split <;> first | rfl | (rename_i e; cases e) | simp_all)
theorem uC {P : Program} {bl bl' : Nat → OB} {s d : TypeId} {x : AV} (h : ∀ k, x.top = some k → bl' k = bl k) : vM P bl' s d x = vM P bl s d x := by
 have e : wG bl' 1 x = wG bl 1 x := by
  cases x <;> first | rfl | skip
  rename_i k off m
  unfold wG
  simp only [h k rfl]
 unfold vM
 rw [e]
theorem ug {x : AV} {d : Nat} (h : ∀ k, x.top = some k → bl' k = bl k) : x.shift bl' d = x.shift bl d := by
 cases x <;> simp only [AV.shift] <;> rw [h _ rfl]
theorem wu {t : TypeId} {x ix : AV} (h : ∀ k, x.top = some k → bl' k = bl k) : Z9 P bl' t x ix = Z9 P bl t x ix := by
 unfold Z9
 split
 ·split
  ·cases x with
   | ns k off len => have e := h k rfl; cases P.info? _ <;> simp only [e]
   | ps k len => have e := h k rfl; cases P.info? _ <;> simp only [e]
   | _ => cases P.info? _ <;> rfl
  ·cases x with
   | ap k i j => have e := h k rfl; cases P.info? _ <;> cases j <;> simp only [e]
   | np k off => have e := h k rfl; cases P.info? _ <;> simp only [e]
   | _ => cases P.info? _ <;> rfl
  ·rfl
 ·rfl
theorem Uw {t : TypeId} {x : AV} {lo hi mx : Option AV} (h : ∀ k, x.top = some k → bl' k = bl k) : xM P bl' t x lo hi mx = xM P bl t x lo hi mx := by
 unfold xM
 rcases P.underlying t with _ | u
 ·rfl
 ·cases u with
  | string =>
   grind
  | slice e =>
   cases x with
   | ns k off len =>
    have e := h k rfl
    grind
   | xl => grind
   | _ => rfl
  | _ => rfl
theorem Tc {t : TypeId} {x : AV} (h : ∀ k, x.top = some k → bl' k = bl k) : vl P bl' t x = vl P bl t x := by
 unfold vl
 rcases P.underlying t with _ | u
 ·rfl
 ·cases x with
  | ns k off len =>
   have e := h k rfl
   grind
  | v x => grind
  | _ => cases u <;> rfl
theorem sf {b : Builtin} {ts : List TypeId} {xs : List AV} (h : ∀ x ∈ xs, ∀ k, x.top = some k → bl' k = bl k) : tv P bl' b ts xs = tv P bl b ts xs := by
 unfold tv
 split <;> first | rfl | exact Tc (h _ (by simp))
theorem Vu {x : AV} (h : ∀ k, x.top = some k → bl' k = bl k) : x7 bl' x = x7 bl x := by
 unfold x7
 cases x with
 | ns k off len => simp only [h k rfl]
 | _ => rfl
theorem UB {op : BinOp} {t : TypeId} {x y : AV} (h1 : ∀ k, x.top = some k → bl' k = bl k) (h2 : ∀ k, y.top = some k → bl' k = bl k) : sX P bl' op t x y = sX P bl op t x y := by
 unfold sX VR
 rw [Vu h1]
 cases y with
 | np k' o' => simp only [h2 k' rfl]
 | v u =>
  grind
 | _ => rfl
theorem Xc {ob : List (Nat × Obj)} {ev ev' : Operand → AV} {o : Op} (he : ∀ x ∈ o.operands, ev' x = ev x) (hb : ∀ x ∈ o.operands, ∀ k, (ev x).strip.top = some k → bl' k = bl k) :
  ZJ P ob bl' ev' o = ZJ P ob bl ev o := by
 have hg : ((Z1 o).flatMap fun x => (ev' x).gprop) = (Z1 o).flatMap fun x => (ev x).gprop := by
  rw [List.flatMap_def, List.flatMap_def]
  congr 1
  refine List.map_congr_left fun x hx => ?_
  rw [he x]
  cases o <;> first | exact Array.mem_toList_iff.1 hx | cases hx
 have hr : zC P ob bl' ev' (fun x => (ev' x).strip) o = zC P ob bl ev (fun x => (ev x).strip) o := by
  have hm : ∀ l : List Operand, (∀ x ∈ l, x ∈ o.operands) → l.map (fun x => (ev' x).strip) = l.map fun x => (ev x).strip := fun l hl => List.map_congr_left fun x hx => by rw [he x (hl x hx)]
  have ho : ∀ l : Option Operand, (∀ x, l = some x → x ∈ o.operands) → l.map (fun x => (ev' x).strip) = l.map fun x => (ev x).strip := fun l hl => by
   cases l with
   | none => rfl
   | some x => simp only [Option.map_some, he x (hl x rfl)]
  cases o with
  | move x => simp only [zC, he x (by simp [Op.operands])]
  | assign x => simp only [zC, he x (by simp [Op.operands])]
  | pick c a b => simp only [zC, he c (by simp [Op.operands]), he a (by simp [Op.operands]), he b (by simp [Op.operands])]
  | load t x =>
   have h := hb x (by simp [Op.operands])
   simp only [zC, he x (by simp [Op.operands]), V1 h]
  | nilCheck x =>
   have h := hb x (by simp [Op.operands])
   simp only [zC, he x (by simp [Op.operands]), uw h]
  | binOp op t x y t' =>
   have h1 := hb x (by simp [Op.operands])
   have h2 := hb y (by simp [Op.operands])
   simp only [zC, he x (by simp [Op.operands]), he y (by simp [Op.operands]), UB h1 h2]
  | build t parts =>
   have : (parts.toList.map fun p => (p.1, (ev' p.2).strip)) = parts.toList.map fun p => (p.1, (ev p.2).strip) := List.map_congr_left fun p hp => by
    rw [he p.2 (by simp only [Op.operands, List.mem_toArray, List.mem_map]; exact ⟨p, hp, rfl⟩)]
   simp only [zC, this]
  | unOp op t x => simp only [zC, he x (by simp [Op.operands])]
  | convert s d x =>
   have h := hb x (by simp [Op.operands])
   simp only [zC, he x (by simp [Op.operands]), uC h]
  | makeFunc f a b =>
   simp only [zC, hm a.toList fun x hx => by simp only [Op.operands, Array.mem_append]; exact .inl (Array.mem_toList_iff.1 hx),
    hm b.toList fun x hx => by simp only [Op.operands, Array.mem_append]; exact .inr (Array.mem_toList_iff.1 hx)]
  | slice t x a b c =>
   have h := hb x (by simp [Op.operands])
   simp only [zC, he x (by simp [Op.operands]), Uw h, ho a fun x hx => by simp [Op.operands, hx], ho b fun x hx => by simp [Op.operands, hx],
    ho c fun x hx => by simp [Op.operands, hx]]
  | fieldAddr t x f =>
   have h := hb x (by simp [Op.operands])
   simp only [zC, he x (by simp [Op.operands]), ug h]
  | field t x f => simp only [zC, he x (by simp [Op.operands])]
  | indexAddr t x i =>
   have h := hb x (by simp [Op.operands])
   simp only [zC, he x (by simp [Op.operands]), he i (by simp [Op.operands]), wu h]
  | index t x i => simp only [zC, he x (by simp [Op.operands]), he i (by simp [Op.operands])]
  | extract x i => simp only [zC, he x (by simp [Op.operands])]
  | call c =>
   obtain ⟨cal, args, ts⟩ := c
   cases cal with
   | builtin b =>
    have hin : ∀ x ∈ args.toList, x ∈ (Op.call ⟨.builtin b, args, ts⟩).operands := fun x hx => by simpa [Op.operands, Call.operands] using hx
    simp only [zC, hm _ hin]
    rw [sf]
    intro x hx k hk
    obtain ⟨y, hy, rfl⟩ := List.mem_map.1 hx
    exact hb y (hin y hy) k hk
   | _ => rfl
  | _ => rfl
 unfold ZJ
 rw [hr, hg]
end
def Sc : Option Nat → Nat → Nat
 | none, n => n
 | some m, n => bif Nat.ble m n then m else n
theorem Vx (m n : Nat) : Sc (some m) n = if m ≤ n then m else n := by
 show (bif Nat.ble m n then m else n) = _
 simp
theorem rW {m : Option Nat} {n : Nat} : Sc m n ≤ n := by
 cases m with
 | none => exact Nat.le_refl _
 | some m => rw [Vx]; split <;> omega
theorem sK {m n : Nat} : Sc (some m) n ≤ m := by rw [Vx]; split <;> omega
theorem Sb {m : Option Nat} {n n' : Nat} (h : n ≤ n') : Sc m n ≤ Sc m n' := by
 cases m with
 | none => exact h
 | some m => rw [Vx, Vx]; split <;> split <;> omega
structure Zl (m : Option Nat) (d : Option Tmp) (σ σ' : zo) : Prop where
 n : σ'.n = σ.n
 nb : σ.nb ≤ σ'.nb
 bl : ∀ k, k < Sc m σ.nb → σ'.bl k = σ.bl k
 tm : ∀ t, d ≠ some t → σ'.tm t = σ.tm t
theorem Zl.refl {m : Option Nat} (d : Option Tmp) (σ : zo) : Zl m d σ σ := ⟨rfl, Nat.le_refl _, fun _ _ => rfl, fun _ _ => rfl⟩
theorem Zl.put {m : Option Nat} {σ σ' : zo} (h : Zl m none σ σ') (d : Option Tmp) (x : AV) : Zl m d σ (σ'.put d x) := by
 cases d with
 | none => exact h
 | some d => exact ⟨h.n, h.nb, h.bl, fun t ht => (zp _ _ fun e => ht (by rw [e])).trans (h.tm t (by simp))⟩
theorem Zl.add {m : Option Nat} (σ : zo) (B : OB) : Zl m none σ (σ.add B) :=
 ⟨rfl, Nat.le_succ _, fun _ hk => zp _ _ (Nat.ne_of_lt (Nat.lt_of_lt_of_le hk rW)), fun _ _ => rfl⟩
theorem YU (σ : zo) (d : Option Tmp) (x : AV) : (σ.put d x).nb = σ.nb := by cases d <;> rfl
theorem Yi (σ : zo) (d : Option Tmp) (x : AV) : (σ.put d x).bl = σ.bl := by cases d <;> rfl
theorem yG (σ : zo) (d : Option Tmp) (x : AV) (B : OB) : (σ.put d x).add B = (σ.add B).put d x := by cases d <;> rfl
theorem put_comm {σ : zo} {d d' : Option Tmp} {x y : AV} (h : ∀ t, d = some t → d' ≠ some t) : (σ.put d x).put d' y = (σ.put d' y).put d x := by
 cases d with
 | none => rfl
 | some d => cases d' with
  | none => rfl
  | some d' =>
   simp only [zo.put, zo.mk.injEq, true_and, and_true]
   funext t
   by_cases h1 : t = d'
   ·subst h1
    rw [upd_same, zp _ _ (fun e => h d rfl (by rw [e])), upd_same]
   ·rw [zp _ _ h1]
    by_cases h2 : t = d
    ·subst h2; rw [upd_same, upd_same]
    ·rw [zp _ _ h2, zp _ _ h2, zp _ _ h1]
theorem Zl.ev {m : Option Nat} {σ σ' : zo} {d : Option Tmp} (h : Zl m d σ σ') {x : Operand} (hx : ∀ t, x = .tmp t → d ≠ some t) : σ'.ev x = σ.ev x := by
 cases x with
 | tmp t => simp only [zo.ev, h.n, h.tm t (hx t rfl)]
 | _ => rfl
theorem SU {σ : zo} {d : Option Tmp} {v : AV} {x : Operand} (hx : ∀ t, x = .tmp t → d ≠ some t) : (σ.put d v).ev x = σ.ev x := ((Zl.refl (m := none) none σ).put d v).ev hx
def Vw : Option Nat → AV → Bool
 | some m, .ns k _ _ => Nat.ble m k
 | _, _ => false
def YW (P : Program) (G : Cx) (σ : zo) (o : Oper) (f : FuncId) (xs : List AV) (k : zo → Prop) : Prop :=
 match G.own f with
 | some _ => ZU o
 | none =>
  match Ya P G f (xs.map (lend σ.bl)) o.type with
  | true => yh P G none f (xs.map (lend σ.bl)) o.type fun r => k (σ.put o.dst r)
  | false => ZU o
def XE (P : Program) (G : Cx) (m : Option Nat) (σ : zo) (o : Oper) (k : zo → Prop) : Prop :=
 match o.op with
 | .alloc elem =>
  match yN P σ elem with
  | some (σ', r) => k (σ'.put o.dst r)
  | none => ZU o
 | .box t x =>
  match Y6 σ t (σ.sv x) with
  | some (σ', r) => ZA (σ.ev x).gprop (k (σ'.put o.dst r))
  | none => ZU o
 | .store _ _ _ => ZU o
 | .buildSlice t len parts =>
  if ((parts.toList.map fun p => σ.sv p.2).any AV.hasOwn || X1 (parts.toList.map (·.2))) = true then ZU o
  else
   match zD P σ t len (parts.toList.map (·.1)) (parts.toList.map fun p => σ.sv p.2) with
   | some (σ', r) => ZA (ZZ σ (parts.toList.map (·.2))) (k (σ'.put o.dst r))
   | none => ZU o
 | .makeSlice t l c =>
  match ZM P σ t (σ.sv l) (σ.sv c) with
  | some (ps, σ', r) => ZA ((σ.ev l).gprop ++ (σ.ev c).gprop ++ ps) (k (σ'.put o.dst r))
  | none => ZU o
 | .call { callee := .value f, args, .. } =>
  match σ.sv f with
  | .fn (.func fid) nf first nc cap =>
   ZA ((σ.ev f).gprop ++ ZZ σ args.toList) <|
    if (ZI nf first (args.toList.map σ.sv) nc cap).any AV.hasOwn then YW P G σ o fid (ZI nf first (args.toList.map σ.sv) nc cap) k
    else
     match yU G σ fid (ZI nf first (args.toList.map σ.sv) nc cap) with
     | some (ps, σ', r) => ZA ps (k (σ'.put o.dst r))
     | none => Yc P G none fid (ZI nf first (args.toList.map σ.sv) nc cap) o.type fun r => k (σ.put o.dst r)
  | _ => ZU o
 | .call { callee := .builtin .append, args, argTypes } =>
  match args.toList, argTypes.toList with
  | [s, x], [t, t'] =>
   if t = t' then
    if ((σ.sv s).hasOwn && !Vw m (σ.sv s)) = true then ZU o
    else
     match Zh P σ t (σ.sv s) (σ.sv x) with
     | some (ps, σ', r) => ZA ((σ.ev s).gprop ++ (σ.ev x).gprop ++ ps) (k (σ'.put o.dst r))
     | none => ZU o
   else ZU o
  | _, _ => ZU o
 | op =>
  match ZJ P G.objs σ.bl σ.ev op with
  | some (ps, r) => ZA ps (k (σ.put o.dst r))
  | none => ZU o
def YX (P : Program) (G : Cx) (m : Option Nat) (ops : List Oper) (o : Oper) (σ : zo) (k : zo → Prop) : Prop :=
 match o.guard with
 | none => XE P G m σ o k
 | some (j, want) =>
  match Zf ops σ j want with
  | some g =>
   match G.conc && !g with
   | true => k (σ.put o.dst (.gd false (wE P o.type)))
   | false => VG P G g σ o k
  | none => ZU o
end Go.Sx

namespace Go.Sx
open Go Go.RowKit
section
variable {P : Program} {G : Cx} {m : Option Nat} {ops : List Oper}
theorem W2 {σ σ' : zo} {e : TypeId} {r : AV} (h : yN P σ e = some (σ', r)) : Zl m none σ σ' ∧ ∀ (d : Option Tmp) (x : AV), yN P (σ.put d x) e = some (σ'.put d x, r) := by
 unfold yN at h ⊢
 repeat' split at h
 all_goals first | cases h | skip
 ·rename_i hc
  refine ⟨Zl.add _ _, fun d x => ?_⟩
  simp only [yG, YU, if_pos hc]
 ·rename_i hn hc
  refine ⟨Zl.add _ _, fun d x => ?_⟩
  simp only [yG, YU, if_neg hn, if_pos hc]
 ·rename_i hc
  refine ⟨Zl.add _ _, fun d x => ?_⟩
  simp only [yG, YU, if_pos hc]
theorem Uu {σ σ' : zo} {t : TypeId} {v r : AV} (h : Y6 σ t v = some (σ', r)) : Zl m none σ σ' ∧ ∀ (d : Option Tmp) (x : AV), Y6 (σ.put d x) t v = some (σ'.put d x, r) := by
 unfold Y6 at h ⊢
 split at h
 ·rename_i n cs hc
  cases h
  exact ⟨Zl.add _ _, fun d x => by simp only [Yi, YU, yG, hc]⟩
 ·cases h
theorem vX {σ σ' : zo} {t : TypeId} {n : Nat} {idx : List Nat} {xs : List AV} {r : AV} (h : zD P σ t n idx xs = some (σ', r)) :
  Zl m none σ σ' ∧ ∀ (d : Option Tmp) (x : AV), zD P (σ.put d x) t n idx xs = some (σ'.put d x, r) := by
 obtain ⟨rfl, h2⟩ := Zb h
 exact ⟨Zl.refl _ _, fun d x => h2 _⟩
theorem uz {σ σ' : zo} {t : TypeId} {l c r : AV} {ps : List zN} (h : ZM P σ t l c = some (ps, σ', r)) :
  Zl m none σ σ' ∧ ∀ (d : Option Tmp) (x : AV), ZM P (σ.put d x) t l c = some (ps, σ'.put d x, r) := by
 unfold ZM at h ⊢
 repeat' split at h
 all_goals first | cases h | skip
 rename_i hc
 refine ⟨Zl.add _ _, fun d x => ?_⟩
 simp only [yG, YU, if_pos hc]
theorem ud {G : Cx} {σ σ' : zo} {f : FuncId} {xs : List AV} {r : AV} {ps : List zN} (h : yU G σ f xs = some (ps, σ', r)) :
  Zl m none σ σ' ∧ ∀ d x, yU G (σ.put d x) f xs = some (ps, σ'.put d x, r) := by
 unfold yU at h ⊢
 split at h
 ·rename_i hf
  cases h
  exact ⟨Zl.add _ _, fun d x => by simp only [yG, YU]⟩
 ·cases h
theorem uj {G : Cx} {σ : zo} {d : Option Tmp} {x : AV} {f : FuncId} {xs : List AV} (h : yU G (σ.put d x) f xs = none) : yU G σ f xs = none := by
 unfold yU at h ⊢
 grind
theorem tE {m : Option Nat} {x : AV} (h : ¬ ((x.hasOwn && !Vw m x) = true)) : x.hasOwn = false ∨ Vw m x = true := by
 grind
theorem xx {σ σ' : zo} {t : TypeId} {s v r : AV} {ps : List zN} (hs : s.hasOwn = false ∨ Vw m s = true) (h : Zh P σ t s v = some (ps, σ', r)) :
  Zl m none σ σ' ∧ ∀ (d : Option Tmp) (x : AV), Zh P (σ.put d x) t s v = some (ps, σ'.put d x, r) := by
 unfold Zh at h ⊢
 repeat' split at h
 all_goals first | cases h | skip
 ·refine ⟨Zl.add _ _, fun d x => ?_⟩
  simp only [yG, YU, Yi]
  simp_all
 ·refine ⟨⟨rfl, Nat.le_refl _, fun k' _ => rfl, fun _ _ => rfl⟩, fun d x => ?_⟩
  simp only [Yi]
  simp_all
 ·refine ⟨Zl.add _ _, fun d x => ?_⟩
  simp only [yG, YU, Yi]
  simp_all
 ·rename_i k n _ _ _ _ _ _ hcc
  have hm : ∀ k', k' < Sc m σ.nb → k' ≠ k := by
   rcases hs with hs | hs
   ·cases hs
   ·cases m with
    | none => cases hs
    | some m' =>
     have h1 : m' ≤ k := Nat.le_of_ble_eq_true hs
     intro k' hk'
     have := sK (m := m') (n := σ.nb)
     omega
  refine ⟨⟨rfl, Nat.le_succ _, fun k' hk' => ?_, fun _ _ => rfl⟩, fun d x => ?_⟩
  ·show upd (upd σ.bl k .dead) σ.nb _ k' = _
   rw [zp _ _ (Nat.ne_of_lt (Nat.lt_of_lt_of_le hk' rW)), zp _ _ (hm k' hk')]
  ·simp only [YU, Yi]
   cases d <;> simp_all [zo.put]
def old (σ : zo) : Option Tmp → AV
 | some t => σ.tm t
 | none => .junk
theorem tc (σ : zo) (d : Option Tmp) (x : AV) : (σ.put d x).put d (old σ d) = σ := by
 cases d with
 | none => rfl
 | some d =>
  obtain ⟨n, tm, nb, bl⟩ := σ
  simp only [zo.put, old, zo.mk.injEq, true_and, and_true]
  funext t
  by_cases h : t = d
  ·subst h; rw [upd_same]
  ·rw [zp _ _ h, zp _ _ h]
theorem SO {f : zo → Option (zo × AV)} (hf : ∀ σ σ' r, f σ = some (σ', r) → Zl m none σ σ' ∧ ∀ d x, f (σ.put d x) = some (σ'.put d x, r)) {σ σ1 : zo} {d : Option Tmp} {x r : AV}
  (h : f (σ.put d x) = some (σ1, r)) : ∃ σ', f σ = some (σ', r) ∧ Zl m none σ σ' ∧ σ1 = σ'.put d x := by
 obtain ⟨h1, h2⟩ := hf _ _ _ h
 have h3 := h2 d (old σ d)
 rw [tc] at h3
 grind
theorem rQ {f : zo → Option (List zN × zo × AV)} (hf : ∀ σ ps σ' r, f σ = some (ps, σ', r) → Zl m none σ σ' ∧ ∀ d x, f (σ.put d x) = some (ps, σ'.put d x, r)) {σ σ1 : zo} {d : Option Tmp} {x r : AV} {ps : List zN}
  (h : f (σ.put d x) = some (ps, σ1, r)) : ∃ σ', f σ = some (ps, σ', r) ∧ Zl m none σ σ' ∧ σ1 = σ'.put d x := by
 obtain ⟨h1, h2⟩ := hf _ _ _ _ h
 have h3 := h2 d (old σ d)
 rw [tc] at h3
 grind
theorem ZW {σ σ' : zo} {d d' : Option Tmp} {x y : AV} {K : zo → Prop} (h : Zl m none σ σ') (hd : ∀ t, d = some t → d' ≠ some t) (hK : K ((σ'.put d x).put d' y)) :
  Zl m d' σ (σ'.put d' y) ∧ K ((σ'.put d' y).put d x) := ⟨h.put d' y, by rw [put_comm hd] at hK; exact hK⟩
theorem TF {σ : zo} {d : Option Tmp} {x : AV} {j : Nat} {want : Bool} (h : ∀ t, d = some t → (ops[j]?).bind (·.dst) ≠ some t) : Zf ops (σ.put d x) j want = Zf ops σ j want := by
 unfold Zf
 cases ho : ops[j]? with
 | none => rfl
 | some o =>
  simp only
  cases hd : o.dst with
  | none => rfl
  | some t =>
   simp only
   cases d with
   | none => rfl
   | some d =>
    have hne : t ≠ d := fun e => h d rfl (by rw [ho, Option.bind_some, hd, e])
    simp only [zo.put, zp _ _ hne]
theorem wW {ex : TypeId → (AV → Prop) → Prop} (hex : ∀ t k k', (∀ r, k r → k' r) → ex t k → ex t k') : ∀ (ts : List TypeId) (k k' : List AV → Prop), (∀ r, k r → k' r) → Y0 ex ts k → Y0 ex ts k'
 | [], _, _, h, hk => h _ hk
 | _ :: ts, _, _, h, hk => hex _ _ _ (fun _ hv => wW hex ts _ _ (fun _ hr => h _ hr) hv) hk
theorem vf : ∀ (n : Nat) (t : TypeId) (k k' : AV → Prop), (∀ r, k r → k' r) → wv P n t k → wv P n t k'
 | 0, _, _, _, h, ⟨r, hr⟩ => ⟨r, h _ hr⟩
 | n + 1, t, k, k', h, hk => by
  unfold wv at hk ⊢
  split at hk
  ·grind
  ·grind
  ·grind
  ·grind
  ·exact wW (vf n) _ _ _ (fun r hr => h _ hr) hk
  grind
theorem zk {ps : List zN} {k k' : Prop} (h : k → k') (hp : ZA ps k) : ZA ps k' := by
 rw [zd] at hp ⊢
 simp_all
theorem yQ {g : Bool} {ps : List zN} {k k' : Prop} (h : k → k') (hp : u7 g ps k) : u7 g ps k' := by
 rw [Zn] at hp ⊢
 simp_all
theorem wF {o : Oper} {d : Option Tmp} (h : ∀ t, d = some t → t ∉ o.looksAt ops.toArray) : ∀ x ∈ o.op.operands, ∀ t, x = .tmp t → d ≠ some t := fun x hx t hxt hd =>
 h t hd (List.mem_append_left _ (List.mem_filterMap.2 ⟨x, Array.mem_toList_iff.2 hx, by rw [hxt]⟩))
theorem X4 {o : Oper} {d : Option Tmp} {j : Nat} {want : Bool} (h : ∀ t, d = some t → t ∉ o.looksAt ops.toArray) (hg : o.guard = some (j, want)) :
  ∀ t, d = some t → (ops[j]?).bind (·.dst) ≠ some t := fun t hd he =>
 h t hd (List.mem_append_right _ (by rw [hg]; simp only [List.getElem?_toArray]; rw [he]; simp))
theorem wj {g : Option Bool} {ps : List zN} {k k' : Prop} (h : k → k') (hp : s0 g ps k) : s0 g ps k' := by
 cases g with
 | none => exact zk h hp
 | some g => exact yQ h hp
theorem ZD {P : Program} {G : Cx} {g : Option Bool} {f : FuncId} {xs : List AV} {t : TypeId} {K K' : AV → Prop} (h : ∀ r, K r → K' r) (hk : yh P G g f xs t K) : yh P G g f xs t K' := by
 unfold yh at hk ⊢
 split at hk
 ·exact wj (h _) hk
 ·exact vf 3 _ _ _ (fun r hr => ⟨hr.1, h r hr.2⟩) hk
theorem Yf {P : Program} {G : Cx} {g : Option Bool} {f : FuncId} {xs : List AV} {t : TypeId} {K K' : AV → Prop} (h : ∀ r, K r → K' r) (hk : Yc P G g f xs t K) : Yc P G g f xs t K' := by
 unfold Yc at hk ⊢
 split at hk
 ·grind
 ·exact ZD h hk
theorem ZC {σ σ' : zo} {l : List Operand} (h : ∀ x ∈ l, σ'.ev x = σ.ev x) : ZZ σ' l = ZZ σ l := by
 unfold ZZ
 rw [List.flatMap_def, List.flatMap_def]
 congr 1
 simp_all
theorem Zc {σ σ' : zo} {x : Operand} (h : σ'.ev x = σ.ev x) : σ'.sv x = σ.sv x := by unfold zo.sv; rw [h]
theorem uk {σ : zo} {o : Oper} {d : Option Tmp} {x : AV} {f : FuncId} {xs : List AV} {K : zo → Prop} (h2 : ∀ t, d = some t → o.dst ≠ some t) (h : YW P G (σ.put d x) o f xs K) :
  YW P G σ o f xs fun σ' => Zl m o.dst σ σ' ∧ K (σ'.put d x) := by
 unfold YW at h ⊢
 simp only [Yi, YU, yG] at h
 split at h
 ·exact h.elim
 ·split at h
  ·exact ZD (fun r hk => ZW (Zl.refl none σ) h2 hk) h
  omega
theorem VQ {σ : zo} {o : Oper} {f : FuncId} {xs : List AV} {K K' : zo → Prop} (hk : ∀ σ, K σ → K' σ) (h : YW P G σ o f xs K) : YW P G σ o f xs K' := by
 unfold YW at h ⊢
 split at h
 ·exact h.elim
 ·split at h
  ·exact ZD (fun r h => hk _ h) h
  omega
theorem SZ {σ : zo} {o : Oper} {d : Option Tmp} {x : AV} {K : zo → Prop} (h1 : ∀ x ∈ o.op.operands, ∀ t, x = .tmp t → d ≠ some t) (h2 : ∀ t, d = some t → o.dst ≠ some t)
  (h : XE P G m (σ.put d x) o K) : XE P G m σ o fun σ' => Zl m o.dst σ σ' ∧ K (σ'.put d x) := by
 have hev : ∀ y ∈ o.op.operands, (σ.put d x).ev y = σ.ev y := fun y hy => SU (h1 y hy)
 have hsv : ∀ y ∈ o.op.operands, (σ.put d x).sv y = σ.sv y := fun y hy => Zc (hev y hy)
 have gr : ∀ r, K ((σ.put d x).put o.dst r) → Zl m o.dst σ (σ.put o.dst r) ∧ K ((σ.put o.dst r).put d x) := fun r hk => ZW (Zl.refl none σ) h2 hk
 unfold XE at h ⊢
 split at h
 ·rename_i e ho
  simp only
  split at h
  ·rename_i σ1 r he
   obtain ⟨σ', g1, g2, rfl⟩ := SO (f := fun σ => yN P σ e) (fun _ _ _ h => W2 h) he
   simp only [g1]
   exact ZW g2 h2 h
  ·exact h.elim
 ·rename_i t y ho
  have e1 := hev y (by rw [ho]; simp [Op.operands])
  have e2 := hsv y (by rw [ho]; simp [Op.operands])
  simp only [e1, e2] at h
  simp only
  split at h
  ·rename_i σ1 r he
   obtain ⟨σ', g1, g2, rfl⟩ := SO (f := fun s => Y6 s t (σ.sv y)) (fun _ _ _ h => Uu h) he
   simp only [g1]
   exact zk (ZW g2 h2) h
  ·exact h.elim
 ·exact h.elim
 ·rename_i t n parts ho
  have hin : ∀ p ∈ parts.toList, p.2 ∈ o.op.operands := fun p hp => by rw [ho]; simp only [Op.operands, List.mem_toArray, List.mem_map]; exact ⟨p, hp, rfl⟩
  have e1 : (parts.toList.map fun p => (σ.put d x).sv p.2) = parts.toList.map fun p => σ.sv p.2 := List.map_congr_left fun p hp => hsv _ (hin p hp)
  have e2 : ZZ (σ.put d x) (parts.toList.map (·.2)) = ZZ σ (parts.toList.map (·.2)) := ZC fun y hy => by
   obtain ⟨p, hp, rfl⟩ := List.mem_map.1 hy
   exact hev _ (hin p hp)
  simp only [e1, e2] at h
  simp only
  split at h
  ·exact h.elim
  ·rename_i hno
   rw [if_neg hno]
   split at h
   ·rename_i σ1 r he
    obtain ⟨σ', g1, g2, rfl⟩ := SO (f := fun s => zD P s t n (parts.toList.map fun p : Nat × Operand => p.1) (parts.toList.map fun p : Nat × Operand => σ.sv p.2)) (fun _ _ _ h => vX h) he
    simp only [g1]
    exact zk (ZW g2 h2) h
   ·exact h.elim
 ·rename_i t l c ho
  have e1 := hev l (by rw [ho]; simp [Op.operands])
  have e2 := hev c (by rw [ho]; simp [Op.operands])
  simp only [e1, e2, Zc e1, Zc e2] at h
  simp only
  split at h
  ·rename_i ps σ1 r he
   obtain ⟨σ', g1, g2, rfl⟩ := rQ (f := fun s => ZM P s t (σ.sv l) (σ.sv c)) (fun _ _ _ _ h => uz h) he
   simp only [g1]
   exact zk (ZW g2 h2) h
  ·exact h.elim
 ·rename_i f args ts ho
  have e1 := hev f (by rw [ho]; simp [Op.operands, Call.operands])
  have hin : ∀ y ∈ args.toList, y ∈ o.op.operands := fun y hy => by rw [ho]; simp only [Op.operands, Call.operands, Array.mem_append]; exact .inr (Array.mem_toList_iff.1 hy)
  have e2 : args.toList.map (σ.put d x).sv = args.toList.map σ.sv := List.map_congr_left fun y hy => hsv _ (hin y hy)
  have e3 : ZZ (σ.put d x) args.toList = ZZ σ args.toList := ZC fun y hy => hev _ (hin y hy)
  simp only [e1, e2, e3, Zc e1] at h
  simp only
  split at h
  ·refine zk (fun h => ?_) h
   split at h
   ·rename_i hown
    rw [if_pos hown]
    exact uk h2 h
   ·rename_i hno
    rw [if_neg hno]
    split at h
    ·rename_i ps σ1 r he
     obtain ⟨σ', g1, g2, rfl⟩ := rQ (f := fun u => yU G u _ _) (fun _ _ _ _ h => ud h) he
     simp only [g1]
     exact zk (ZW g2 h2) h
    ·rename_i he
     rw [uj he]
     exact Yf gr h
  ·exact h.elim
 ·rename_i args ts ho
  have hin : ∀ y ∈ args.toList, y ∈ o.op.operands := fun y hy => by rw [ho]; simp only [Op.operands, Call.operands, Array.mem_append]; exact .inr (Array.mem_toList_iff.1 hy)
  simp only
  split at h
  ·rename_i s y t t' ha ht
   have e1 := hev s (hin s (by rw [ha]; simp))
   have e2 := hev y (hin y (by rw [ha]; simp))
   simp only [e1, e2, Zc e1, Zc e2] at h
   split at h
   ·rename_i htt
    rw [if_pos htt]
    split at h
    ·exact h.elim
    ·rename_i hno
     rw [if_neg hno]
     split at h
     ·rename_i ps σ1 r he
      obtain ⟨σ', g1, g2, rfl⟩ := rQ (f := fun u => Zh P u t (σ.sv s) (σ.sv y)) (fun _ _ _ _ h => xx (tE hno) h) he
      simp only [g1]
      exact zk (ZW g2 h2) h
     ·rename_i he0
      have e0 : Zh P σ t (σ.sv s) (σ.sv y) = none := by
       cases h0 : Zh P σ t (σ.sv s) (σ.sv y) with
       | none => rfl
       | some q =>
        obtain ⟨ps, σ1, r⟩ := q
        rw [(xx (tE hno) h0).2 d x] at he0
        cases he0
      exact h.elim
   ·exact h.elim
  ·exact h.elim
 ·have e : ZJ P G.objs (σ.put d x).bl (σ.put d x).ev o.op = ZJ P G.objs σ.bl σ.ev o.op := Xc hev fun _ _ _ _ => by rw [Yi]
  rw [e] at h
  split at h
  ·rename_i ps r he
   exact zk (gr r) h
  ·exact h.elim
theorem qJ {g : Bool} {σ : zo} {o : Oper} {d : Option Tmp} {x : AV} {K : zo → Prop} (h1 : ∀ x ∈ o.op.operands, ∀ t, x = .tmp t → d ≠ some t) (h2 : ∀ t, d = some t → o.dst ≠ some t)
  (h : VG P G g (σ.put d x) o K) : VG P G g σ o fun σ' => Zl m o.dst σ σ' ∧ K (σ'.put d x) := by
 have hev : ∀ y ∈ o.op.operands, (σ.put d x).ev y = σ.ev y := fun y hy => SU (h1 y hy)
 have hsv : ∀ y ∈ o.op.operands, (σ.put d x).sv y = σ.sv y := fun y hy => Zc (hev y hy)
 have gr : ∀ r, K ((σ.put d x).put o.dst r) → Zl m o.dst σ (σ.put o.dst r) ∧ K ((σ.put o.dst r).put d x) := fun r hk => ZW (Zl.refl none σ) h2 hk
 unfold VG at h ⊢
 split at h
 ·rename_i f args ts ho
  have e1 := hev f (by rw [ho]; simp [Op.operands, Call.operands])
  have hin : ∀ y ∈ args.toList, y ∈ o.op.operands := fun y hy => by rw [ho]; simp only [Op.operands, Call.operands, Array.mem_append]; exact .inr (Array.mem_toList_iff.1 hy)
  have e2 : args.toList.map (σ.put d x).sv = args.toList.map σ.sv := List.map_congr_left fun y hy => hsv _ (hin y hy)
  have e3 : ZZ (σ.put d x) args.toList = ZZ σ args.toList := ZC fun y hy => hev _ (hin y hy)
  simp only [e1, e2, e3, Zc e1, Yi] at h
  simp only
  split at h
  ·refine yQ (fun h => ?_) h
   split at h
   ·rename_i hno
    rw [if_pos hno]
    split at h
    ·split at h
     ·exact gr _ h
     ·exact h.elim
    ·split at h
     ·rename_i hs
      rw [if_pos hs]
      exact ZD (fun r hr => gr _ hr) h
     ·exact h.elim
   ·rename_i hno
    rw [if_neg hno]
    exact Yf (fun r hr => gr _ hr) h
  ·exact h.elim
 ·rename_i tb lb parts ho
  have hin : ∀ p ∈ parts.toList, p.2 ∈ o.op.operands := fun p hp => by rw [ho]; simp only [Op.operands, List.mem_toArray, List.mem_map]; exact ⟨p, hp, rfl⟩
  have e1 : (parts.toList.map fun p => (σ.put d x).sv p.2) = parts.toList.map fun p => σ.sv p.2 := List.map_congr_left fun p hp => hsv _ (hin p hp)
  have e2 : ZZ (σ.put d x) (parts.toList.map (·.2)) = ZZ σ (parts.toList.map (·.2)) := ZC fun y hy => by
   obtain ⟨p, hp, rfl⟩ := List.mem_map.1 hy
   exact hev _ (hin p hp)
  rw [e1, e2] at h
  split at h
  ·exact h.elim
  ·rename_i hno
   rw [if_neg hno]
   split at h
   ·rename_i σ1 r he
    rw [(Zb he).2 σ]
    exact yQ (gr _) h
   ·exact h.elim
 ·have e : ZJ P G.objs (σ.put d x).bl (σ.put d x).ev o.op = ZJ P G.objs σ.bl σ.ev o.op := Xc hev fun _ _ _ _ => by rw [Yi]
  rw [e] at h
  split at h
  ·exact yQ (gr _) h
  ·exact h.elim
theorem T3 {σ : zo} {o : Oper} {d : Option Tmp} {x : AV} {K : zo → Prop} (h1 : ∀ t, d = some t → t ∉ o.looksAt ops.toArray) (h2 : ∀ t, d = some t → o.dst ≠ some t)
  (h : YX P G m ops o (σ.put d x) K) : YX P G m ops o σ fun σ' => Zl m o.dst σ σ' ∧ K (σ'.put d x) := by
 unfold YX at h ⊢
 split at h
 ·exact SZ (wF h1) h2 h
 ·rename_i j want hg
  rw [TF (X4 h1 hg)] at h
  split at h
  ·rename_i g _
   cases hc : G.conc && !g with
   | true =>
    rw [hc] at h
    exact ZW (Zl.refl none σ) h2 h
   | false =>
    rw [hc] at h
    exact qJ (wF h1) h2 h
  omega
theorem sq {σ : zo} {o : Oper} {K K' : zo → Prop} (hk : ∀ σ, K σ → K' σ) (h : XE P G m σ o K) : XE P G m σ o K' := by
 unfold XE at h ⊢
 split at h
 ·grind
 ·split at h
  ·exact zk (hk _) h
  ·exact h
 ·exact h
 ·split at h
  ·exact h.elim
  ·rename_i hno
   rw [if_neg hno]
   split at h
   ·exact zk (hk _) h
   ·exact h
 ·split at h
  ·exact zk (hk _) h
  ·exact h
 ·split at h
  ·refine zk (fun h => ?_) h
   split at h
   ·rename_i hown
    rw [if_pos hown]
    exact VQ hk h
   ·rename_i hno
    rw [if_neg hno]
    split at h
    ·exact zk (hk _) h
    ·exact Yf (fun r hr => hk _ hr) h
  ·exact h
 ·split at h
  ·split at h
   ·rename_i htt
    rw [if_pos htt]
    split at h
    ·exact h.elim
    ·rename_i hno
     rw [if_neg hno]
     split at h
     ·exact zk (hk _) h
     ·exact h
   simp_all
  ·exact h
 ·split at h
  ·exact zk (hk _) h
  ·exact h
theorem XR {g : Bool} {σ : zo} {o : Oper} {K K' : zo → Prop} (hk : ∀ σ, K σ → K' σ) (h : VG P G g σ o K) : VG P G g σ o K' := by
 unfold VG at h ⊢
 split at h
 ·split at h
  ·refine yQ (fun h => ?_) h
   split at h
   ·rename_i hno
    rw [if_pos hno]
    split at h
    ·grind
    ·split at h
     ·rename_i hs
      rw [if_pos hs]
      exact ZD (fun r hr => hk _ hr) h
     simp_all
   ·rename_i hno
    rw [if_neg hno]
    exact Yf (fun r hr => hk _ hr) h
  ·exact h
 ·split at h
  ·exact h.elim
  ·rename_i hno
   rw [if_neg hno]
   split at h
   ·exact yQ (hk _) h
   ·exact h
 ·split at h
  ·exact yQ (hk _) h
  ·exact h
theorem xC {σ : zo} {o : Oper} {K K' : zo → Prop} (hk : ∀ σ, K σ → K' σ) (h : YX P G m ops o σ K) : YX P G m ops o σ K' := by
 unfold YX at h ⊢
 split at h
 ·exact sq hk h
 ·split at h
  ·rename_i g _
   cases hc : G.conc && !g with
   | true => simp_all
   | false => rw [hc] at h; exact XR hk h
  ·exact h
theorem vx {σ : zo} {xs : List AV} (h : ¬ (xs.any AV.hasOwn) = true) : yA σ xs = some (σ, xs) := by unfold yA; rw [if_neg h]
theorem Sp {σ : zo} {o : Oper} {K : zo → Prop} (h : XE P G m σ o K) : qC P G σ o K := by
 unfold XE at h
 unfold qC
 split at h
 ·grind
 ·grind
 ·exact h.elim
 ·rename_i ho
  simp only [ho]
  split at h
  ·exact h.elim
  ·rename_i hno
   rw [Vi hno, vx fun h => hno (by rw [h]; rfl)]
   exact h
 ·grind
 ·rename_i ho
  simp only [ho]
  split at h
  ·rename_i hf
   simp only [hf]
   refine zk (fun h => ?_) h
   split at h
   ·rename_i hown
    unfold Y2
    rw [if_pos hown]
    unfold YW at h
    split at h
    ·exact h.elim
    ·rename_i ho0
     rw [ho0]
     simp only
     split at h
     ·simp_all
     ·exact h.elim
   ·rename_i hno
    unfold Y2
    rw [if_neg hno]
    split at h
    ·simp_all
    rename_i he
    rw [he]
    unfold Yc at h
    split at h
    ·exact h.elim
    ·exact h
  ·exact h.elim
 ·rename_i ho
  simp only [ho]
  split at h
  ·rename_i ha ht
   simp only [ha, ht]
   split at h
   ·split at h
    ·exact h.elim
    grind
   ·exact h.elim
  simp_all
 grind
theorem TB {g : Bool} {σ : zo} {o : Oper} {K : zo → Prop} (h : VG P G g σ o K) : v8 P G g σ o K := by
 unfold v8
 split
 ·rename_i ho
  split
  ·rename_i hf
   split
   ·rename_i hi
    unfold VG at h
    simp only [ho, hf, Zn] at h
    obtain ⟨h1, h2⟩ := h
    unfold Yc at h2
    rw [hi] at h2
    cases g with
    | true => split at h2 <;> exact h2.elim
    | false => split at h2 <;> exact h2
   ·exact h
  ·rename_i hf
   unfold VG at h
   simp only [ho, hf] at h
   exact h.elim
  ·exact h
 ·exact h
theorem vO {σ : zo} {o : Oper} {K : zo → Prop} (h : YX P G m ops o σ K) : W6 P G ops o σ K := by
 unfold YX at h
 unfold W6
 cases hg : o.guard with
 | none => rw [hg] at h; exact Sp h
 | some jw =>
  rw [hg] at h
  simp only at h ⊢
  split at h
  ·rename_i g hga
   simp only [hga]
   cases hc : G.conc && !g with
   | true => simp_all
   | false => rw [hc] at h; exact TB h
  simp_all
end
end Go.Sx
