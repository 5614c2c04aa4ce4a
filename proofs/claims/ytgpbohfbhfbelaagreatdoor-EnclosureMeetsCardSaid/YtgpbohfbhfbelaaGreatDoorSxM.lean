/- Regions whose operations come in any order: what only computes or reads may be taken first. -/
import Derived.Test.YtgpbohfbhfbelaaGreatDoorSxK
set_option linter.unusedSimpArgs false
set_option linter.unusedVariables false
namespace Go.Sx
open Go Go.RowKit
def AV.top : AV → Option Nat
 | .np k _ | .ns k _ _ | .ap k _ _ | .ps k _ | .mp k => some k
 | _ => none
section
variable {P : Program} {bl bl' : Nat → OB}
theorem rY {sh : Option Nat} {x : AV} (h : ∀ k, x.top = some k → bl' k = bl k) : xx bl' sh x = xx bl sh x := by
 cases x <;> simp only [xx] <;> rw [h _ rfl]
theorem RB {x : AV} (h : ∀ k, x.top = some k → bl' k = bl k) : WM bl' x = WM bl x := by
 cases x <;> simp only [WM] <;> first | rw [h _ rfl] | (split <;> first | rfl | (rename_i e; cases e) | simp_all)
theorem qM {P : Program} {bl bl' : Nat → OB} {s d : TypeId} {x : AV} (h : ∀ k, x.top = some k → bl' k = bl k) : SN P bl' s d x = SN P bl s d x := by
 have e : t6 bl' 1 x = t6 bl 1 x := by
  cases x <;> first | rfl | skip
  rename_i k off m
  unfold t6
  simp only [h k rfl]
 unfold SN
 rw [e]
theorem QO {x : AV} {d : Nat} (h : ∀ k, x.top = some k → bl' k = bl k) : x.shift bl' d = x.shift bl d := by
 cases x <;> simp only [AV.shift] <;> rw [h _ rfl]
theorem UR {t : TypeId} {x ix : AV} (h : ∀ k, x.top = some k → bl' k = bl k) : Yi P bl' t x ix = Yi P bl t x ix := by
 unfold Yi
 split
 ·split
  ·cases x with
   | ns k off len => have e := h k rfl; cases P.info? _ <;> simp only [e]
   | ps k len => have e := h k rfl; cases P.info? _ <;> simp only [e]
   | _ => cases P.info? _ <;> rfl
  ·cases x with
   | ap k i j => have e := h k rfl; cases P.info? _ <;> cases j <;> simp only [e]
   | np k off => have e := h k rfl; cases P.info? _ <;> simp only [e]
   | _ => cases P.info? _ <;> rfl
  ·rfl
 ·rfl
theorem R4 {t : TypeId} {x : AV} {lo hi mx : Option AV} (h : ∀ k, x.top = some k → bl' k = bl k) : WB P bl' t x lo hi mx = WB P bl t x lo hi mx := by
 unfold WB
 rcases P.underlying t with _ | u
 ·rfl
 ·cases u with
  | string =>
   grind
  | slice e =>
   cases x with
   | ns k off len =>
    have e := h k rfl
    grind
   | xl => grind
   | _ => rfl
  | _ => rfl
theorem nV {t : TypeId} {x : AV} (h : ∀ k, x.top = some k → bl' k = bl k) : sV P bl' t x = sV P bl t x := by
 unfold sV
 rcases P.underlying t with _ | u
 ·rfl
 ·cases x with
  | ns k off len =>
   have e := h k rfl
   grind
  | v x => grind
  | _ => cases u <;> rfl
theorem Ma {b : Builtin} {ts : List TypeId} {xs : List AV} (h : ∀ x ∈ xs, ∀ k, x.top = some k → bl' k = bl k) : R6 P bl' b ts xs = R6 P bl b ts xs := by
 unfold R6
 split <;> first | rfl | exact nV (h _ (by simp))
theorem Rf {x : AV} (h : ∀ k, x.top = some k → bl' k = bl k) : vF bl' x = vF bl x := by
 unfold vF
 cases x with
 | ns k off len => simp only [h k rfl]
 | _ => rfl
theorem pZ {op : BinOp} {t : TypeId} {x y : AV} (h1 : ∀ k, x.top = some k → bl' k = bl k) (h2 : ∀ k, y.top = some k → bl' k = bl k) : O5 P bl' op t x y = O5 P bl op t x y := by
 unfold O5 RY
 rw [Rf h1]
 cases y with
 | np k' o' => simp only [h2 k' rfl]
 | v u =>
  grind
 | _ => rfl
theorem PX {t : TypeId} {x ix : AV} (h : ∀ k, x.top = some k → bl' k = bl k) : V5 P bl' t x ix = V5 P bl t x ix := by
 unfold V5
 cases x with
 | mp k => simp only [h k rfl]
 | _ => rfl
theorem xt {ob : List (Nat × Obj)} {ev ev' : Operand → AV} {o : Op} (he : ∀ x ∈ o.operands, ev' x = ev x) (hb : ∀ x ∈ o.operands, ∀ k, (ev x).strip.top = some k → bl' k = bl k) :
  Z1 P ob bl' ev' o = Z1 P ob bl ev o := by
 have hg : ((YY o).flatMap fun x => (ev' x).gprop) = (YY o).flatMap fun x => (ev x).gprop := by
  rw [List.flatMap_def, List.flatMap_def]
  congr 1
  refine List.map_congr_left fun x hx => ?_
  rw [he x]
  cases o <;> first | exact Array.mem_toList_iff.1 hx | cases hx
 have hr : ZQ P ob bl' ev' (fun x => (ev' x).strip) o = ZQ P ob bl ev (fun x => (ev x).strip) o := by
  have hm : ∀ l : List Operand, (∀ x ∈ l, x ∈ o.operands) → l.map (fun x => (ev' x).strip) = l.map fun x => (ev x).strip := fun l hl => List.map_congr_left fun x hx => by rw [he x (hl x hx)]
  have ho : ∀ l : Option Operand, (∀ x, l = some x → x ∈ o.operands) → l.map (fun x => (ev' x).strip) = l.map fun x => (ev x).strip := fun l hl => by
   cases l with
   | none => rfl
   | some x => simp only [Option.map_some, he x (hl x rfl)]
  cases o with
  | move x => simp only [ZQ, he x (by simp [Op.operands])]
  | assign x => simp only [ZQ, he x (by simp [Op.operands])]
  | pick c a b => simp only [ZQ, he c (by simp [Op.operands]), he a (by simp [Op.operands]), he b (by simp [Op.operands])]
  | load t x =>
   have h := hb x (by simp [Op.operands])
   simp only [ZQ, he x (by simp [Op.operands]), rY h]
  | nilCheck x =>
   have h := hb x (by simp [Op.operands])
   simp only [ZQ, he x (by simp [Op.operands]), RB h]
  | binOp op t x y t' =>
   have h1 := hb x (by simp [Op.operands])
   have h2 := hb y (by simp [Op.operands])
   simp only [ZQ, he x (by simp [Op.operands]), he y (by simp [Op.operands]), pZ h1 h2]
  | build t parts =>
   have : (parts.toList.map fun p => (p.1, (ev' p.2).strip)) = parts.toList.map fun p => (p.1, (ev p.2).strip) := List.map_congr_left fun p hp => by
    rw [he p.2 (by simp only [Op.operands, List.mem_toArray, List.mem_map]; exact ⟨p, hp, rfl⟩)]
   simp only [ZQ, this]
  | unOp op t x => simp only [ZQ, he x (by simp [Op.operands])]
  | convert s d x =>
   have h := hb x (by simp [Op.operands])
   simp only [ZQ, he x (by simp [Op.operands]), qM h]
  | makeFunc f a b =>
   simp only [ZQ, hm a.toList fun x hx => by simp only [Op.operands, Array.mem_append]; exact .inl (Array.mem_toList_iff.1 hx),
    hm b.toList fun x hx => by simp only [Op.operands, Array.mem_append]; exact .inr (Array.mem_toList_iff.1 hx)]
  | slice t x a b c =>
   have h := hb x (by simp [Op.operands])
   simp only [ZQ, he x (by simp [Op.operands]), R4 h, ho a fun x hx => by simp [Op.operands, hx], ho b fun x hx => by simp [Op.operands, hx],
    ho c fun x hx => by simp [Op.operands, hx]]
  | fieldAddr t x f =>
   have h := hb x (by simp [Op.operands])
   simp only [ZQ, he x (by simp [Op.operands]), QO h]
  | field t x f => simp only [ZQ, he x (by simp [Op.operands])]
  | indexAddr t x i =>
   have h := hb x (by simp [Op.operands])
   simp only [ZQ, he x (by simp [Op.operands]), he i (by simp [Op.operands]), UR h]
  | lookup t x i c =>
   have h := hb x (by simp [Op.operands])
   cases c with
   | true => rfl
   | false => simp only [ZQ, he x (by simp [Op.operands]), he i (by simp [Op.operands]), PX h]
  | index t x i => simp only [ZQ, he x (by simp [Op.operands]), he i (by simp [Op.operands])]
  | extract x i => simp only [ZQ, he x (by simp [Op.operands])]
  | call c =>
   obtain ⟨cal, args, ts⟩ := c
   cases cal with
   | builtin b =>
    have hin : ∀ x ∈ args.toList, x ∈ (Op.call ⟨.builtin b, args, ts⟩).operands := fun x hx => by simpa [Op.operands, Call.operands] using hx
    simp only [ZQ, hm _ hin]
    rw [Ma]
    intro x hx k hk
    obtain ⟨y, hy, rfl⟩ := List.mem_map.1 hx
    exact hb y (hin y hy) k hk
   | _ => rfl
  | _ => rfl
 unfold Z1
 rw [hr, hg]
end
def RE : Option Nat → Nat → Nat
 | none, n => n
 | some m, n => bif Nat.ble m n then m else n
theorem rM (m n : Nat) : RE (some m) n = if m ≤ n then m else n := by
 show (bif Nat.ble m n then m else n) = _
 simp
theorem Qa {m : Option Nat} {n : Nat} : RE m n ≤ n := by
 cases m with
 | none => exact Nat.le_refl _
 | some m => rw [rM]; split <;> omega
theorem MF {m n : Nat} : RE (some m) n ≤ m := by rw [rM]; split <;> omega
theorem tD {m : Option Nat} {n n' : Nat} (h : n ≤ n') : RE m n ≤ RE m n' := by
 cases m with
 | none => exact h
 | some m => rw [rM, rM]; split <;> split <;> omega
structure yx (m : Option Nat) (d : Option Tmp) (σ σ' : zo) : Prop where
 n : σ'.n = σ.n
 nb : σ.nb ≤ σ'.nb
 bl : ∀ k, k < RE m σ.nb → σ'.bl k = σ.bl k
 tm : ∀ t, d ≠ some t → σ'.tm t = σ.tm t
theorem yx.refl {m : Option Nat} (d : Option Tmp) (σ : zo) : yx m d σ σ := ⟨rfl, Nat.le_refl _, fun _ _ => rfl, fun _ _ => rfl⟩
theorem yx.put {m : Option Nat} {σ σ' : zo} (h : yx m none σ σ') (d : Option Tmp) (x : AV) : yx m d σ (σ'.put d x) := by
 cases d with
 | none => exact h
 | some d => exact ⟨h.n, h.nb, h.bl, fun t ht => (zM _ _ fun e => ht (by rw [e])).trans (h.tm t (by simp))⟩
theorem yx.add {m : Option Nat} (σ : zo) (B : OB) : yx m none σ (σ.add B) :=
 ⟨rfl, Nat.le_succ _, fun _ hk => zM _ _ (Nat.ne_of_lt (Nat.lt_of_lt_of_le hk Qa)), fun _ _ => rfl⟩
theorem xy (σ : zo) (d : Option Tmp) (x : AV) : (σ.put d x).nb = σ.nb := by cases d <;> rfl
theorem Y7 (σ : zo) (d : Option Tmp) (x : AV) : (σ.put d x).bl = σ.bl := by cases d <;> rfl
theorem xa (σ : zo) (d : Option Tmp) (x : AV) (B : OB) : (σ.put d x).add B = (σ.add B).put d x := by cases d <;> rfl
theorem put_comm {σ : zo} {d d' : Option Tmp} {x y : AV} (h : ∀ t, d = some t → d' ≠ some t) : (σ.put d x).put d' y = (σ.put d' y).put d x := by
 cases d with
 | none => rfl
 | some d => cases d' with
  | none => rfl
  | some d' =>
   simp only [zo.put, zo.mk.injEq, true_and, and_true]
   funext t
   by_cases h1 : t = d'
   ·subst h1
    rw [upd_same, zM _ _ (fun e => h d rfl (by rw [e])), upd_same]
   ·rw [zM _ _ h1]
    by_cases h2 : t = d
    ·subst h2; rw [upd_same, upd_same]
    ·rw [zM _ _ h2, zM _ _ h2, zM _ _ h1]
theorem yx.ev {m : Option Nat} {σ σ' : zo} {d : Option Tmp} (h : yx m d σ σ') {x : Operand} (hx : ∀ t, x = .tmp t → d ≠ some t) : σ'.ev x = σ.ev x := by
 cases x with
 | tmp t => simp only [zo.ev, h.n, h.tm t (hx t rfl)]
 | _ => rfl
theorem Q4 {σ : zo} {d : Option Tmp} {v : AV} {x : Operand} (hx : ∀ t, x = .tmp t → d ≠ some t) : (σ.put d v).ev x = σ.ev x := ((yx.refl (m := none) none σ).put d v).ev hx
def rJ : Option Nat → AV → Bool
 | some m, .ns k _ _ => Nat.ble m k
 | _, _ => false
def XI (P : Program) (G : Cx) (σ : zo) (o : Oper) (f : FuncId) (xs : List AV) (k : zo → Prop) : Prop :=
 match G.own f with
 | some _ => ZH o
 | none =>
  match Wo P G f (xs.map (lend σ.bl)) o.type with
  | true => xC P G none f (xs.map (lend σ.bl)) o.type fun r => k (σ.put o.dst r)
  | false => ZH o
def uy (P : Program) (G : Cx) (m : Option Nat) (σ : zo) (o : Oper) (k : zo → Prop) : Prop :=
 match o.op with
 | .alloc elem =>
  match xi P σ elem with
  | some (σ', r) => k (σ'.put o.dst r)
  | none => ZH o
 | .box t x =>
  match Wh σ t (σ.sv x) with
  | some (σ', r) => y4 (σ.ev x).gprop (k (σ'.put o.dst r))
  | none => ZH o
 | .store _ _ _ => ZH o
 | .buildSlice t len parts =>
  if ((parts.toList.map fun p => σ.sv p.2).any AV.hasOwn || ut (parts.toList.map (·.2))) = true then ZH o
  else
   match ZL P σ t len (parts.toList.map (·.1)) (parts.toList.map fun p => σ.sv p.2) with
   | some (σ', r) => y4 (ZG σ (parts.toList.map (·.2))) (k (σ'.put o.dst r))
   | none => ZH o
 | .makeSlice t l c =>
  match yV P σ t (σ.sv l) (σ.sv c) with
  | some (ps, σ', r) => y4 ((σ.ev l).gprop ++ (σ.ev c).gprop ++ ps) (k (σ'.put o.dst r))
  | none => ZH o
 | .call { callee := .value f, args, .. } =>
  match σ.sv f with
  | .fn (.func fid) nf first nc cap =>
   y4 ((σ.ev f).gprop ++ ZG σ args.toList) <|
    if (yM nf first (args.toList.map σ.sv) nc cap).any AV.hasOwn then XI P G σ o fid (yM nf first (args.toList.map σ.sv) nc cap) k
    else
     match yH G σ fid (yM nf first (args.toList.map σ.sv) nc cap) with
     | some (ps, σ', r) => y4 ps (k (σ'.put o.dst r))
     | none => wc P G none fid (yM nf first (args.toList.map σ.sv) nc cap) o.type fun r => k (σ.put o.dst r)
  | _ => ZH o
 | .call { callee := .builtin .append, args, argTypes } =>
  match args.toList, argTypes.toList with
  | [s, x], [t, t'] =>
   if t = t' then
    if ((σ.sv s).hasOwn && !rJ m (σ.sv s)) = true then ZH o
    else
     match Z0 P σ t (σ.sv s) (σ.sv x) with
     | some (ps, σ', r) => y4 ((σ.ev s).gprop ++ (σ.ev x).gprop ++ ps) (k (σ'.put o.dst r))
     | none => ZH o
   else ZH o
  | _, _ => ZH o
 | op =>
  match Z1 P G.objs σ.bl σ.ev op with
  | some (ps, r) => y4 ps (k (σ.put o.dst r))
  | none => ZH o
def XJ (P : Program) (G : Cx) (m : Option Nat) (ops : List Oper) (o : Oper) (σ : zo) (k : zo → Prop) : Prop :=
 match o.guard with
 | none => uy P G m σ o k
 | some (j, want) =>
  match yW ops σ j want with
  | some g =>
   match G.conc && !g with
   | true => k (σ.put o.dst (.gd false (tU P o.type)))
   | false => S7 P G g σ o k
  | none => ZH o
end Go.Sx

namespace Go.Sx
open Go Go.RowKit
section
variable {P : Program} {G : Cx} {m : Option Nat} {ops : List Oper}
theorem Ta {σ σ' : zo} {e : TypeId} {r : AV} (h : xi P σ e = some (σ', r)) : yx m none σ σ' ∧ ∀ (d : Option Tmp) (x : AV), xi P (σ.put d x) e = some (σ'.put d x, r) := by
 unfold xi at h ⊢
 repeat' split at h
 all_goals first | cases h | skip
 ·rename_i hc
  refine ⟨yx.add _ _, fun d x => ?_⟩
  simp only [xa, xy, if_pos hc]
 ·rename_i hn hc
  refine ⟨yx.add _ _, fun d x => ?_⟩
  simp only [xa, xy, if_neg hn, if_pos hc]
 ·rename_i hc
  refine ⟨yx.add _ _, fun d x => ?_⟩
  simp only [xa, xy, if_pos hc]
theorem qY {σ σ' : zo} {t : TypeId} {v r : AV} (h : Wh σ t v = some (σ', r)) : yx m none σ σ' ∧ ∀ (d : Option Tmp) (x : AV), Wh (σ.put d x) t v = some (σ'.put d x, r) := by
 unfold Wh at h ⊢
 split at h
 ·rename_i n cs hc
  cases h
  exact ⟨yx.add _ _, fun d x => by simp only [Y7, xy, xa, hc]⟩
 ·cases h
theorem T6 {σ σ' : zo} {t : TypeId} {n : Nat} {idx : List Nat} {xs : List AV} {r : AV} (h : ZL P σ t n idx xs = some (σ', r)) :
  yx m none σ σ' ∧ ∀ (d : Option Tmp) (x : AV), ZL P (σ.put d x) t n idx xs = some (σ'.put d x, r) := by
 obtain ⟨rfl, h2⟩ := YU h
 exact ⟨yx.refl _ _, fun d x => h2 _⟩
theorem rI {σ σ' : zo} {t : TypeId} {l c r : AV} {ps : List zn} (h : yV P σ t l c = some (ps, σ', r)) :
  yx m none σ σ' ∧ ∀ (d : Option Tmp) (x : AV), yV P (σ.put d x) t l c = some (ps, σ'.put d x, r) := by
 unfold yV at h ⊢
 repeat' split at h
 all_goals first | cases h | skip
 rename_i hc
 refine ⟨yx.add _ _, fun d x => ?_⟩
 simp only [xa, xy, if_pos hc]
theorem Qn {G : Cx} {σ σ' : zo} {f : FuncId} {xs : List AV} {r : AV} {ps : List zn} (h : yH G σ f xs = some (ps, σ', r)) :
  yx m none σ σ' ∧ ∀ d x, yH G (σ.put d x) f xs = some (ps, σ'.put d x, r) := by
 unfold yH at h ⊢
 split at h
 ·rename_i hf
  cases h
  exact ⟨yx.add _ _, fun d x => by simp only [xa, xy]⟩
 ·cases h
theorem qZ {G : Cx} {σ : zo} {d : Option Tmp} {x : AV} {f : FuncId} {xs : List AV} (h : yH G (σ.put d x) f xs = none) : yH G σ f xs = none := by
 unfold yH at h ⊢
 grind
theorem oG {m : Option Nat} {x : AV} (h : ¬ ((x.hasOwn && !rJ m x) = true)) : x.hasOwn = false ∨ rJ m x = true := by
 grind
theorem WR {σ σ' : zo} {t : TypeId} {s v r : AV} {ps : List zn} (hs : s.hasOwn = false ∨ rJ m s = true) (h : Z0 P σ t s v = some (ps, σ', r)) :
  yx m none σ σ' ∧ ∀ (d : Option Tmp) (x : AV), Z0 P (σ.put d x) t s v = some (ps, σ'.put d x, r) := by
 unfold Z0 at h ⊢
 repeat' split at h
 all_goals first | cases h | skip
 ·refine ⟨yx.add _ _, fun d x => ?_⟩
  simp only [xa, xy, Y7]
  simp_all
 ·refine ⟨⟨rfl, Nat.le_refl _, fun k' _ => rfl, fun _ _ => rfl⟩, fun d x => ?_⟩
  simp only [Y7]
  simp_all
 ·refine ⟨yx.add _ _, fun d x => ?_⟩
  simp only [xa, xy, Y7]
  simp_all
 ·rename_i k n _ _ _ _ _ _ hcc
  have hm : ∀ k', k' < RE m σ.nb → k' ≠ k := by
   rcases hs with hs | hs
   ·cases hs
   ·cases m with
    | none => cases hs
    | some m' =>
     have h1 : m' ≤ k := Nat.le_of_ble_eq_true hs
     intro k' hk'
     have := MF (m := m') (n := σ.nb)
     omega
  refine ⟨⟨rfl, Nat.le_succ _, fun k' hk' => ?_, fun _ _ => rfl⟩, fun d x => ?_⟩
  ·show upd (upd σ.bl k .dead) σ.nb _ k' = _
   rw [zM _ _ (Nat.ne_of_lt (Nat.lt_of_lt_of_le hk' Qa)), zM _ _ (hm k' hk')]
  ·simp only [xy, Y7]
   cases d <;> simp_all [zo.put]
def old (σ : zo) : Option Tmp → AV
 | some t => σ.tm t
 | none => .junk
theorem oR (σ : zo) (d : Option Tmp) (x : AV) : (σ.put d x).put d (old σ d) = σ := by
 cases d with
 | none => rfl
 | some d =>
  obtain ⟨n, tm, nb, bl⟩ := σ
  simp only [zo.put, old, zo.mk.injEq, true_and, and_true]
  funext t
  by_cases h : t = d
  ·subst h; rw [upd_same]
  ·rw [zM _ _ h, zM _ _ h]
theorem N2 {f : zo → Option (zo × AV)} (hf : ∀ σ σ' r, f σ = some (σ', r) → yx m none σ σ' ∧ ∀ d x, f (σ.put d x) = some (σ'.put d x, r)) {σ σ1 : zo} {d : Option Tmp} {x r : AV}
  (h : f (σ.put d x) = some (σ1, r)) : ∃ σ', f σ = some (σ', r) ∧ yx m none σ σ' ∧ σ1 = σ'.put d x := by
 obtain ⟨h1, h2⟩ := hf _ _ _ h
 have h3 := h2 d (old σ d)
 rw [oR] at h3
 grind
theorem Ly {f : zo → Option (List zn × zo × AV)} (hf : ∀ σ ps σ' r, f σ = some (ps, σ', r) → yx m none σ σ' ∧ ∀ d x, f (σ.put d x) = some (ps, σ'.put d x, r)) {σ σ1 : zo} {d : Option Tmp} {x r : AV} {ps : List zn}
  (h : f (σ.put d x) = some (ps, σ1, r)) : ∃ σ', f σ = some (ps, σ', r) ∧ yx m none σ σ' ∧ σ1 = σ'.put d x := by
 obtain ⟨h1, h2⟩ := hf _ _ _ _ h
 have h3 := h2 d (old σ d)
 rw [oR] at h3
 grind
theorem Z3 {σ σ' : zo} {d d' : Option Tmp} {x y : AV} {K : zo → Prop} (h : yx m none σ σ') (hd : ∀ t, d = some t → d' ≠ some t) (hK : K ((σ'.put d x).put d' y)) :
  yx m d' σ (σ'.put d' y) ∧ K ((σ'.put d' y).put d x) := ⟨h.put d' y, by rw [put_comm hd] at hK; exact hK⟩
theorem OD {σ : zo} {d : Option Tmp} {x : AV} {j : Nat} {want : Bool} (h : ∀ t, d = some t → (ops[j]?).bind (·.dst) ≠ some t) : yW ops (σ.put d x) j want = yW ops σ j want := by
 unfold yW
 cases ho : ops[j]? with
 | none => rfl
 | some o =>
  simp only
  cases hd : o.dst with
  | none => rfl
  | some t =>
   simp only
   cases d with
   | none => rfl
   | some d =>
    have hne : t ≠ d := fun e => h d rfl (by rw [ho, Option.bind_some, hd, e])
    simp only [zo.put, zM _ _ hne]
theorem uE {ex : TypeId → (AV → Prop) → Prop} (hex : ∀ t k k', (∀ r, k r → k' r) → ex t k → ex t k') : ∀ (ts : List TypeId) (k k' : List AV → Prop), (∀ r, k r → k' r) → WI ex ts k → WI ex ts k'
 | [], _, _, h, hk => h _ hk
 | _ :: ts, _, _, h, hk => hex _ _ _ (fun _ hv => uE hex ts _ _ (fun _ hr => h _ hr) hv) hk
theorem Sk : ∀ (n : Nat) (t : TypeId) (k k' : AV → Prop), (∀ r, k r → k' r) → UQ P n t k → UQ P n t k'
 | 0, _, _, _, h, ⟨r, hr⟩ => ⟨r, h _ hr⟩
 | n + 1, t, k, k', h, hk => by
  unfold UQ at hk ⊢
  split at hk
  ·grind
  ·grind
  ·grind
  ·grind
  ·exact uE (Sk n) _ _ _ (fun r hr => h _ hr) hk
  grind
theorem zj {ps : List zn} {k k' : Prop} (h : k → k') (hp : y4 ps k) : y4 ps k' := by
 rw [zd] at hp ⊢
 simp_all
theorem xX {g : Bool} {ps : List zn} {k k' : Prop} (h : k → k') (hp : Ra g ps k) : Ra g ps k' := by
 rw [yt] at hp ⊢
 simp_all
theorem XM {o : Oper} {d : Option Tmp} (h : ∀ t, d = some t → t ∉ o.looksAt ops.toArray) : ∀ x ∈ o.op.operands, ∀ t, x = .tmp t → d ≠ some t := fun x hx t hxt hd =>
 h t hd (List.mem_append_left _ (List.mem_filterMap.2 ⟨x, Array.mem_toList_iff.2 hx, by rw [hxt]⟩))
theorem u4 {o : Oper} {d : Option Tmp} {j : Nat} {want : Bool} (h : ∀ t, d = some t → t ∉ o.looksAt ops.toArray) (hg : o.guard = some (j, want)) :
  ∀ t, d = some t → (ops[j]?).bind (·.dst) ≠ some t := fun t hd he =>
 h t hd (List.mem_append_right _ (by rw [hg]; simp only [List.getElem?_toArray]; rw [he]; simp))
theorem U4 {g : Option Bool} {ps : List zn} {k k' : Prop} (h : k → k') (hp : LM g ps k) : LM g ps k' := by
 cases g with
 | none => exact zj h hp
 | some g => exact xX h hp
theorem yP {P : Program} {G : Cx} {g : Option Bool} {f : FuncId} {xs : List AV} {t : TypeId} {K K' : AV → Prop} (h : ∀ r, K r → K' r) (hk : xC P G g f xs t K) : xC P G g f xs t K' := by
 unfold xC at hk ⊢
 split at hk
 ·exact U4 (h _) hk
 ·exact Sk 3 _ _ _ (fun r hr => ⟨hr.1, h r hr.2⟩) hk
theorem wI {P : Program} {G : Cx} {g : Option Bool} {f : FuncId} {xs : List AV} {t : TypeId} {K K' : AV → Prop} (h : ∀ r, K r → K' r) (hk : wc P G g f xs t K) : wc P G g f xs t K' := by
 unfold wc at hk ⊢
 split at hk
 ·grind
 ·exact yP h hk
theorem ye {σ σ' : zo} {l : List Operand} (h : ∀ x ∈ l, σ'.ev x = σ.ev x) : ZG σ' l = ZG σ l := by
 unfold ZG
 rw [List.flatMap_def, List.flatMap_def]
 congr 1
 simp_all
theorem Zr {σ σ' : zo} {x : Operand} (h : σ'.ev x = σ.ev x) : σ'.sv x = σ.sv x := by unfold zo.sv; rw [h]
theorem QY {σ : zo} {o : Oper} {d : Option Tmp} {x : AV} {f : FuncId} {xs : List AV} {K : zo → Prop} (h2 : ∀ t, d = some t → o.dst ≠ some t) (h : XI P G (σ.put d x) o f xs K) :
  XI P G σ o f xs fun σ' => yx m o.dst σ σ' ∧ K (σ'.put d x) := by
 unfold XI at h ⊢
 simp only [Y7, xy, xa] at h
 split at h
 ·exact h.elim
 ·split at h
  ·exact yP (fun r hk => Z3 (yx.refl none σ) h2 hk) h
  omega
theorem RJ {σ : zo} {o : Oper} {f : FuncId} {xs : List AV} {K K' : zo → Prop} (hk : ∀ σ, K σ → K' σ) (h : XI P G σ o f xs K) : XI P G σ o f xs K' := by
 unfold XI at h ⊢
 split at h
 ·exact h.elim
 ·split at h
  ·exact yP (fun r h => hk _ h) h
  omega
theorem MQ {σ : zo} {o : Oper} {d : Option Tmp} {x : AV} {K : zo → Prop} (h1 : ∀ x ∈ o.op.operands, ∀ t, x = .tmp t → d ≠ some t) (h2 : ∀ t, d = some t → o.dst ≠ some t)
  (h : uy P G m (σ.put d x) o K) : uy P G m σ o fun σ' => yx m o.dst σ σ' ∧ K (σ'.put d x) := by
 have hev : ∀ y ∈ o.op.operands, (σ.put d x).ev y = σ.ev y := fun y hy => Q4 (h1 y hy)
 have hsv : ∀ y ∈ o.op.operands, (σ.put d x).sv y = σ.sv y := fun y hy => Zr (hev y hy)
 have gr : ∀ r, K ((σ.put d x).put o.dst r) → yx m o.dst σ (σ.put o.dst r) ∧ K ((σ.put o.dst r).put d x) := fun r hk => Z3 (yx.refl none σ) h2 hk
 unfold uy at h ⊢
 split at h
 ·rename_i e ho
  simp only
  split at h
  ·rename_i σ1 r he
   obtain ⟨σ', g1, g2, rfl⟩ := N2 (f := fun σ => xi P σ e) (fun _ _ _ h => Ta h) he
   simp only [g1]
   exact Z3 g2 h2 h
  ·exact h.elim
 ·rename_i t y ho
  have e1 := hev y (by rw [ho]; simp [Op.operands])
  have e2 := hsv y (by rw [ho]; simp [Op.operands])
  simp only [e1, e2] at h
  simp only
  split at h
  ·rename_i σ1 r he
   obtain ⟨σ', g1, g2, rfl⟩ := N2 (f := fun s => Wh s t (σ.sv y)) (fun _ _ _ h => qY h) he
   simp only [g1]
   exact zj (Z3 g2 h2) h
  ·exact h.elim
 ·exact h.elim
 ·rename_i t n parts ho
  have hin : ∀ p ∈ parts.toList, p.2 ∈ o.op.operands := fun p hp => by rw [ho]; simp only [Op.operands, List.mem_toArray, List.mem_map]; exact ⟨p, hp, rfl⟩
  have e1 : (parts.toList.map fun p => (σ.put d x).sv p.2) = parts.toList.map fun p => σ.sv p.2 := List.map_congr_left fun p hp => hsv _ (hin p hp)
  have e2 : ZG (σ.put d x) (parts.toList.map (·.2)) = ZG σ (parts.toList.map (·.2)) := ye fun y hy => by
   obtain ⟨p, hp, rfl⟩ := List.mem_map.1 hy
   exact hev _ (hin p hp)
  simp only [e1, e2] at h
  simp only
  split at h
  ·exact h.elim
  ·rename_i hno
   rw [if_neg hno]
   split at h
   ·rename_i σ1 r he
    obtain ⟨σ', g1, g2, rfl⟩ := N2 (f := fun s => ZL P s t n (parts.toList.map fun p : Nat × Operand => p.1) (parts.toList.map fun p : Nat × Operand => σ.sv p.2)) (fun _ _ _ h => T6 h) he
    simp only [g1]
    exact zj (Z3 g2 h2) h
   ·exact h.elim
 ·rename_i t l c ho
  have e1 := hev l (by rw [ho]; simp [Op.operands])
  have e2 := hev c (by rw [ho]; simp [Op.operands])
  simp only [e1, e2, Zr e1, Zr e2] at h
  simp only
  split at h
  ·rename_i ps σ1 r he
   obtain ⟨σ', g1, g2, rfl⟩ := Ly (f := fun s => yV P s t (σ.sv l) (σ.sv c)) (fun _ _ _ _ h => rI h) he
   simp only [g1]
   exact zj (Z3 g2 h2) h
  ·exact h.elim
 ·rename_i f args ts ho
  have e1 := hev f (by rw [ho]; simp [Op.operands, Call.operands])
  have hin : ∀ y ∈ args.toList, y ∈ o.op.operands := fun y hy => by rw [ho]; simp only [Op.operands, Call.operands, Array.mem_append]; exact .inr (Array.mem_toList_iff.1 hy)
  have e2 : args.toList.map (σ.put d x).sv = args.toList.map σ.sv := List.map_congr_left fun y hy => hsv _ (hin y hy)
  have e3 : ZG (σ.put d x) args.toList = ZG σ args.toList := ye fun y hy => hev _ (hin y hy)
  simp only [e1, e2, e3, Zr e1] at h
  simp only
  split at h
  ·refine zj (fun h => ?_) h
   split at h
   ·rename_i hown
    rw [if_pos hown]
    exact QY h2 h
   ·rename_i hno
    rw [if_neg hno]
    split at h
    ·rename_i ps σ1 r he
     obtain ⟨σ', g1, g2, rfl⟩ := Ly (f := fun u => yH G u _ _) (fun _ _ _ _ h => Qn h) he
     simp only [g1]
     exact zj (Z3 g2 h2) h
    ·rename_i he
     rw [qZ he]
     exact wI gr h
  ·exact h.elim
 ·rename_i args ts ho
  have hin : ∀ y ∈ args.toList, y ∈ o.op.operands := fun y hy => by rw [ho]; simp only [Op.operands, Call.operands, Array.mem_append]; exact .inr (Array.mem_toList_iff.1 hy)
  simp only
  split at h
  ·rename_i s y t t' ha ht
   have e1 := hev s (hin s (by rw [ha]; simp))
   have e2 := hev y (hin y (by rw [ha]; simp))
   simp only [e1, e2, Zr e1, Zr e2] at h
   split at h
   ·rename_i htt
    rw [if_pos htt]
    split at h
    ·exact h.elim
    ·rename_i hno
     rw [if_neg hno]
     split at h
     ·rename_i ps σ1 r he
      obtain ⟨σ', g1, g2, rfl⟩ := Ly (f := fun u => Z0 P u t (σ.sv s) (σ.sv y)) (fun _ _ _ _ h => WR (oG hno) h) he
      simp only [g1]
      exact zj (Z3 g2 h2) h
     ·rename_i he0
      have e0 : Z0 P σ t (σ.sv s) (σ.sv y) = none := by
       cases h0 : Z0 P σ t (σ.sv s) (σ.sv y) with
       | none => rfl
       | some q =>
        obtain ⟨ps, σ1, r⟩ := q
        rw [(WR (oG hno) h0).2 d x] at he0
        cases he0
      exact h.elim
   ·exact h.elim
  ·exact h.elim
 ·have e : Z1 P G.objs (σ.put d x).bl (σ.put d x).ev o.op = Z1 P G.objs σ.bl σ.ev o.op := xt hev fun _ _ _ _ => by rw [Y7]
  rw [e] at h
  split at h
  ·rename_i ps r he
   exact zj (gr r) h
  ·exact h.elim
theorem K3 {g : Bool} {σ : zo} {o : Oper} {d : Option Tmp} {x : AV} {K : zo → Prop} (h1 : ∀ x ∈ o.op.operands, ∀ t, x = .tmp t → d ≠ some t) (h2 : ∀ t, d = some t → o.dst ≠ some t)
  (h : S7 P G g (σ.put d x) o K) : S7 P G g σ o fun σ' => yx m o.dst σ σ' ∧ K (σ'.put d x) := by
 have hev : ∀ y ∈ o.op.operands, (σ.put d x).ev y = σ.ev y := fun y hy => Q4 (h1 y hy)
 have hsv : ∀ y ∈ o.op.operands, (σ.put d x).sv y = σ.sv y := fun y hy => Zr (hev y hy)
 have gr : ∀ r, K ((σ.put d x).put o.dst r) → yx m o.dst σ (σ.put o.dst r) ∧ K ((σ.put o.dst r).put d x) := fun r hk => Z3 (yx.refl none σ) h2 hk
 unfold S7 at h ⊢
 split at h
 ·rename_i f args ts ho
  have e1 := hev f (by rw [ho]; simp [Op.operands, Call.operands])
  have hin : ∀ y ∈ args.toList, y ∈ o.op.operands := fun y hy => by rw [ho]; simp only [Op.operands, Call.operands, Array.mem_append]; exact .inr (Array.mem_toList_iff.1 hy)
  have e2 : args.toList.map (σ.put d x).sv = args.toList.map σ.sv := List.map_congr_left fun y hy => hsv _ (hin y hy)
  have e3 : ZG (σ.put d x) args.toList = ZG σ args.toList := ye fun y hy => hev _ (hin y hy)
  simp only [e1, e2, e3, Zr e1, Y7] at h
  simp only
  split at h
  ·refine xX (fun h => ?_) h
   split at h
   ·rename_i hno
    rw [if_pos hno]
    split at h
    ·split at h
     ·exact gr _ h
     ·exact h.elim
    ·split at h
     ·rename_i hs
      rw [if_pos hs]
      exact yP (fun r hr => gr _ hr) h
     ·exact h.elim
   ·rename_i hno
    rw [if_neg hno]
    exact wI (fun r hr => gr _ hr) h
  ·exact h.elim
 ·rename_i tb lb parts ho
  have hin : ∀ p ∈ parts.toList, p.2 ∈ o.op.operands := fun p hp => by rw [ho]; simp only [Op.operands, List.mem_toArray, List.mem_map]; exact ⟨p, hp, rfl⟩
  have e1 : (parts.toList.map fun p => (σ.put d x).sv p.2) = parts.toList.map fun p => σ.sv p.2 := List.map_congr_left fun p hp => hsv _ (hin p hp)
  have e2 : ZG (σ.put d x) (parts.toList.map (·.2)) = ZG σ (parts.toList.map (·.2)) := ye fun y hy => by
   obtain ⟨p, hp, rfl⟩ := List.mem_map.1 hy
   exact hev _ (hin p hp)
  rw [e1, e2] at h
  split at h
  ·exact h.elim
  ·rename_i hno
   rw [if_neg hno]
   split at h
   ·rename_i σ1 r he
    rw [(YU he).2 σ]
    exact xX (gr _) h
   ·exact h.elim
 ·have e : Z1 P G.objs (σ.put d x).bl (σ.put d x).ev o.op = Z1 P G.objs σ.bl σ.ev o.op := xt hev fun _ _ _ _ => by rw [Y7]
  rw [e] at h
  split at h
  ·exact xX (gr _) h
  ·exact h.elim
theorem NY {σ : zo} {o : Oper} {d : Option Tmp} {x : AV} {K : zo → Prop} (h1 : ∀ t, d = some t → t ∉ o.looksAt ops.toArray) (h2 : ∀ t, d = some t → o.dst ≠ some t)
  (h : XJ P G m ops o (σ.put d x) K) : XJ P G m ops o σ fun σ' => yx m o.dst σ σ' ∧ K (σ'.put d x) := by
 unfold XJ at h ⊢
 split at h
 ·exact MQ (XM h1) h2 h
 ·rename_i j want hg
  rw [OD (u4 h1 hg)] at h
  split at h
  ·rename_i g _
   cases hc : G.conc && !g with
   | true =>
    rw [hc] at h
    exact Z3 (yx.refl none σ) h2 h
   | false =>
    rw [hc] at h
    exact K3 (XM h1) h2 h
  omega
theorem nK {σ : zo} {o : Oper} {K K' : zo → Prop} (hk : ∀ σ, K σ → K' σ) (h : uy P G m σ o K) : uy P G m σ o K' := by
 unfold uy at h ⊢
 split at h
 ·grind
 ·split at h
  ·exact zj (hk _) h
  ·exact h
 ·exact h
 ·split at h
  ·exact h.elim
  ·rename_i hno
   rw [if_neg hno]
   split at h
   ·exact zj (hk _) h
   ·exact h
 ·split at h
  ·exact zj (hk _) h
  ·exact h
 ·split at h
  ·refine zj (fun h => ?_) h
   split at h
   ·rename_i hown
    rw [if_pos hown]
    exact RJ hk h
   ·rename_i hno
    rw [if_neg hno]
    split at h
    ·exact zj (hk _) h
    ·exact wI (fun r hr => hk _ hr) h
  ·exact h
 ·split at h
  ·split at h
   ·rename_i htt
    rw [if_pos htt]
    split at h
    ·exact h.elim
    ·rename_i hno
     rw [if_neg hno]
     split at h
     ·exact zj (hk _) h
     ·exact h
   simp_all
  ·exact h
 ·split at h
  ·exact zj (hk _) h
  ·exact h
theorem Ve {g : Bool} {σ : zo} {o : Oper} {K K' : zo → Prop} (hk : ∀ σ, K σ → K' σ) (h : S7 P G g σ o K) : S7 P G g σ o K' := by
 unfold S7 at h ⊢
 split at h
 ·split at h
  ·refine xX (fun h => ?_) h
   split at h
   ·rename_i hno
    rw [if_pos hno]
    split at h
    ·grind
    ·split at h
     ·rename_i hs
      rw [if_pos hs]
      exact yP (fun r hr => hk _ hr) h
     simp_all
   ·rename_i hno
    rw [if_neg hno]
    exact wI (fun r hr => hk _ hr) h
  ·exact h
 ·split at h
  ·exact h.elim
  ·rename_i hno
   rw [if_neg hno]
   split at h
   ·exact xX (hk _) h
   ·exact h
 ·split at h
  ·exact xX (hk _) h
  ·exact h
theorem v6 {σ : zo} {o : Oper} {K K' : zo → Prop} (hk : ∀ σ, K σ → K' σ) (h : XJ P G m ops o σ K) : XJ P G m ops o σ K' := by
 unfold XJ at h ⊢
 split at h
 ·exact nK hk h
 ·split at h
  ·rename_i g _
   cases hc : G.conc && !g with
   | true => simp_all
   | false => rw [hc] at h; exact Ve hk h
  ·exact h
theorem T4 {σ : zo} {xs : List AV} (h : ¬ (xs.any AV.hasOwn) = true) : YE σ xs = some (σ, xs) := by unfold YE; rw [if_neg h]
theorem N3 {σ : zo} {o : Oper} {K : zo → Prop} (h : uy P G m σ o K) : Qj P G σ o K := by
 unfold uy at h
 unfold Qj
 split at h
 ·rename_i ho
  simp only [ho]
  exact h
 ·rename_i ho
  simp only [ho]
  exact h
 ·exact h.elim
 ·rename_i ho
  simp only [ho]
  split at h
  ·exact h.elim
  ·rename_i hno
   rw [rK hno, T4 fun h => hno (by rw [h]; rfl)]
   exact h
 ·rename_i ho
  simp only [ho]
  exact h
 ·rename_i ho
  simp only [ho]
  split at h
  ·rename_i hf
   simp only [hf]
   refine zj (fun h => ?_) h
   split at h
   ·rename_i hown
    unfold YS
    rw [if_pos hown]
    unfold XI at h
    split at h
    ·exact h.elim
    ·rename_i ho0
     rw [ho0]
     simp only
     split at h
     ·rename_i hl
      rw [if_pos hl]
      exact h
     ·exact h.elim
   ·rename_i hno
    unfold YS
    rw [if_neg hno]
    split at h
    ·rename_i he
     rw [he]
     exact h
    rename_i he
    rw [he]
    unfold wc at h
    split at h
    ·exact h.elim
    ·exact h
  ·exact h.elim
 ·rename_i ho
  simp only [ho]
  split at h
  ·rename_i ha ht
   simp only [ha, ht]
   split at h
   ·split at h
    ·exact h.elim
    ·rename_i htt _
     rw [if_pos htt]
     split at h
     ·rename_i hap
      rw [hap]
      exact h
     ·rename_i hap
      rw [hap]
      exact h
   ·exact h.elim
  ·exact h.elim
 ·rename_i n1 n2 n3 n4 n5 n6 n7
  split
  ·rename_i ho; exact (n1 _ ho).elim
  ·rename_i ho; exact (n2 _ _ ho).elim
  ·rename_i ho; exact (n3 _ _ _ ho).elim
  ·rename_i ho; exact (n4 _ _ _ ho).elim
  ·rename_i ho; exact (n5 _ _ _ ho).elim
  ·rename_i ho; exact (n6 _ _ _ ho).elim
  ·rename_i ho; exact (n7 _ _ ho).elim
  ·rename_i ho; rw [ho] at h; simp [Z1, ZQ, R6] at h; exact h.elim
  ·rename_i ho; rw [ho] at h; simp [Z1, ZQ] at h; exact h.elim
  ·rename_i ho; rw [ho] at h; simp [Z1, ZQ] at h; exact h.elim
  ·rename_i ho; rw [ho] at h; simp [Z1, ZQ] at h; exact h.elim
  ·rename_i ho; rw [ho] at h; simp [Z1, ZQ] at h; exact h.elim
  ·exact h
theorem nE {g : Bool} {σ : zo} {o : Oper} {K : zo → Prop} (h : S7 P G g σ o K) : rz P G g σ o K := by
 unfold rz
 split
 ·rename_i ho
  split
  ·rename_i hf
   split
   ·rename_i hi
    unfold S7 at h
    simp only [ho, hf, yt] at h
    obtain ⟨h1, h2⟩ := h
    unfold wc at h2
    rw [hi] at h2
    cases g with
    | true => split at h2 <;> exact h2.elim
    | false => split at h2 <;> exact h2
   ·exact h
  ·rename_i hf
   unfold S7 at h
   simp only [ho, hf] at h
   exact h.elim
  ·exact h
 ·exact h
theorem sw {σ : zo} {o : Oper} {K : zo → Prop} (h : XJ P G m ops o σ K) : wO P G ops o σ K := by
 unfold XJ at h
 unfold wO
 cases hg : o.guard with
 | none => rw [hg] at h; exact N3 h
 | some jw =>
  rw [hg] at h
  simp only at h ⊢
  split at h
  ·rename_i g hga
   simp only [hga]
   cases hc : G.conc && !g with
   | true => simp_all
   | false => rw [hc] at h; exact nE h
  simp_all
end
end Go.Sx
