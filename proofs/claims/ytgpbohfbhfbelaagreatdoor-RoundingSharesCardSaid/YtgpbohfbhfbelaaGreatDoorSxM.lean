/- Regions whose operations come in any order: what only computes or reads may be taken first. -/
import Derived.Test.YtgpbohfbhfbelaaGreatDoorSxK
set_option linter.unusedSimpArgs false
set_option linter.unusedVariables false
namespace Go.Sx
open Go Go.RowKit
def AV.top : AV → Option Nat
 | .np k _ | .ns k _ _ | .ap k _ _ | .ps k _ => some k
 | _ => none
section
variable {P : Program} {bl bl' : Nat → OB}
theorem re {sh : Option Nat} {x : AV} (h : ∀ k, x.top = some k → bl' k = bl k) : xQ bl' sh x = xQ bl sh x := by
 cases x <;> simp only [xQ] <;> rw [h _ rfl]
theorem RG {x : AV} (h : ∀ k, x.top = some k → bl' k = bl k) : WT bl' x = WT bl x := by
 cases x <;> simp only [WT] <;> first | rw [h _ rfl] | (split <;> first | rfl | (rename_i e; cases e) | simp_all)
theorem qH {P : Program} {bl bl' : Nat → OB} {s d : TypeId} {x : AV} (h : ∀ k, x.top = some k → bl' k = bl k) : Sw P bl' s d x = Sw P bl s d x := by
 have e : Tz bl' 1 x = Tz bl 1 x := by
  cases x <;> first | rfl | skip
  rename_i k off m
  unfold Tz
  simp only [h k rfl]
 unfold Sw
 rw [e]
theorem qP {x : AV} {d : Nat} (h : ∀ k, x.top = some k → bl' k = bl k) : x.shift bl' d = x.shift bl d := by
 cases x <;> simp only [AV.shift] <;> rw [h _ rfl]
theorem u7 {t : TypeId} {x ix : AV} (h : ∀ k, x.top = some k → bl' k = bl k) : YB P bl' t x ix = YB P bl t x ix := by
 unfold YB
 split
 ·split
  ·cases x with
   | ns k off len => have e := h k rfl; cases P.info? _ <;> simp only [e]
   | ps k len => have e := h k rfl; cases P.info? _ <;> simp only [e]
   | _ => cases P.info? _ <;> rfl
  ·cases x with
   | ap k i j => have e := h k rfl; cases P.info? _ <;> cases j <;> simp only [e]
   | np k off => have e := h k rfl; cases P.info? _ <;> simp only [e]
   | _ => cases P.info? _ <;> rfl
  ·rfl
 ·rfl
theorem qw {t : TypeId} {x : AV} {lo hi mx : Option AV} (h : ∀ k, x.top = some k → bl' k = bl k) : vR P bl' t x lo hi mx = vR P bl t x lo hi mx := by
 unfold vR
 rcases P.underlying t with _ | u
 ·rfl
 ·cases u with
  | string =>
   grind
  | slice e =>
   cases x with
   | ns k off len =>
    have e := h k rfl
    grind
   | xl => grind
   | _ => rfl
  | _ => rfl
theorem Nm {t : TypeId} {x : AV} (h : ∀ k, x.top = some k → bl' k = bl k) : sG P bl' t x = sG P bl t x := by
 unfold sG
 rcases P.underlying t with _ | u
 ·rfl
 ·cases x with
  | ns k off len =>
   have e := h k rfl
   grind
  | v x => grind
  | _ => cases u <;> rfl
theorem NG {b : Builtin} {ts : List TypeId} {xs : List AV} (h : ∀ x ∈ xs, ∀ k, x.top = some k → bl' k = bl k) : QM P bl' b ts xs = QM P bl b ts xs := by
 unfold QM
 split <;> first | rfl | exact Nm (h _ (by simp))
theorem Rt {x : AV} (h : ∀ k, x.top = some k → bl' k = bl k) : vK bl' x = vK bl x := by
 unfold vK
 cases x with
 | ns k off len => simp only [h k rfl]
 | _ => rfl
theorem PM {op : BinOp} {t : TypeId} {x y : AV} (h1 : ∀ k, x.top = some k → bl' k = bl k) (h2 : ∀ k, y.top = some k → bl' k = bl k) : NY P bl' op t x y = NY P bl op t x y := by
 unfold NY Rn
 rw [Rt h1]
 cases y with
 | np k' o' => simp only [h2 k' rfl]
 | v u =>
  grind
 | _ => rfl
theorem Vb {ob : List (Nat × Obj)} {ev ev' : Operand → AV} {o : Op} (he : ∀ x ∈ o.operands, ev' x = ev x) (hb : ∀ x ∈ o.operands, ∀ k, (ev x).strip.top = some k → bl' k = bl k) :
  y6 P ob bl' ev' o = y6 P ob bl ev o := by
 have hg : ((YG o).flatMap fun x => (ev' x).gprop) = (YG o).flatMap fun x => (ev x).gprop := by
  rw [List.flatMap_def, List.flatMap_def]
  congr 1
  refine List.map_congr_left fun x hx => ?_
  rw [he x]
  cases o <;> first | exact Array.mem_toList_iff.1 hx | cases hx
 have hr : ZK P ob bl' ev' (fun x => (ev' x).strip) o = ZK P ob bl ev (fun x => (ev x).strip) o := by
  have hm : ∀ l : List Operand, (∀ x ∈ l, x ∈ o.operands) → l.map (fun x => (ev' x).strip) = l.map fun x => (ev x).strip := fun l hl => List.map_congr_left fun x hx => by rw [he x (hl x hx)]
  have ho : ∀ l : Option Operand, (∀ x, l = some x → x ∈ o.operands) → l.map (fun x => (ev' x).strip) = l.map fun x => (ev x).strip := fun l hl => by
   cases l with
   | none => rfl
   | some x => simp only [Option.map_some, he x (hl x rfl)]
  cases o with
  | move x => simp only [ZK, he x (by simp [Op.operands])]
  | assign x => simp only [ZK, he x (by simp [Op.operands])]
  | pick c a b => simp only [ZK, he c (by simp [Op.operands]), he a (by simp [Op.operands]), he b (by simp [Op.operands])]
  | load t x =>
   have h := hb x (by simp [Op.operands])
   simp only [ZK, he x (by simp [Op.operands]), re h]
  | nilCheck x =>
   have h := hb x (by simp [Op.operands])
   simp only [ZK, he x (by simp [Op.operands]), RG h]
  | binOp op t x y t' =>
   have h1 := hb x (by simp [Op.operands])
   have h2 := hb y (by simp [Op.operands])
   simp only [ZK, he x (by simp [Op.operands]), he y (by simp [Op.operands]), PM h1 h2]
  | build t parts =>
   have : (parts.toList.map fun p => (p.1, (ev' p.2).strip)) = parts.toList.map fun p => (p.1, (ev p.2).strip) := List.map_congr_left fun p hp => by
    rw [he p.2 (by simp only [Op.operands, List.mem_toArray, List.mem_map]; exact ⟨p, hp, rfl⟩)]
   simp only [ZK, this]
  | unOp op t x => simp only [ZK, he x (by simp [Op.operands])]
  | convert s d x =>
   have h := hb x (by simp [Op.operands])
   simp only [ZK, he x (by simp [Op.operands]), qH h]
  | makeFunc f a b =>
   simp only [ZK, hm a.toList fun x hx => by simp only [Op.operands, Array.mem_append]; exact .inl (Array.mem_toList_iff.1 hx),
    hm b.toList fun x hx => by simp only [Op.operands, Array.mem_append]; exact .inr (Array.mem_toList_iff.1 hx)]
  | slice t x a b c =>
   have h := hb x (by simp [Op.operands])
   simp only [ZK, he x (by simp [Op.operands]), qw h, ho a fun x hx => by simp [Op.operands, hx], ho b fun x hx => by simp [Op.operands, hx],
    ho c fun x hx => by simp [Op.operands, hx]]
  | fieldAddr t x f =>
   have h := hb x (by simp [Op.operands])
   simp only [ZK, he x (by simp [Op.operands]), qP h]
  | field t x f => simp only [ZK, he x (by simp [Op.operands])]
  | indexAddr t x i =>
   have h := hb x (by simp [Op.operands])
   simp only [ZK, he x (by simp [Op.operands]), he i (by simp [Op.operands]), u7 h]
  | index t x i => simp only [ZK, he x (by simp [Op.operands]), he i (by simp [Op.operands])]
  | extract x i => simp only [ZK, he x (by simp [Op.operands])]
  | call c =>
   obtain ⟨cal, args, ts⟩ := c
   cases cal with
   | builtin b =>
    have hin : ∀ x ∈ args.toList, x ∈ (Op.call ⟨.builtin b, args, ts⟩).operands := fun x hx => by simpa [Op.operands, Call.operands] using hx
    simp only [ZK, hm _ hin]
    rw [NG]
    intro x hx k hk
    obtain ⟨y, hy, rfl⟩ := List.mem_map.1 hx
    exact hb y (hin y hy) k hk
   | _ => rfl
  | _ => rfl
 unfold y6
 rw [hr, hg]
end
def Qo : Option Nat → Nat → Nat
 | none, n => n
 | some m, n => bif Nat.ble m n then m else n
theorem rh (m n : Nat) : Qo (some m) n = if m ≤ n then m else n := by
 show (bif Nat.ble m n then m else n) = _
 simp
theorem LQ {m : Option Nat} {n : Nat} : Qo m n ≤ n := by
 cases m with
 | none => exact Nat.le_refl _
 | some m => rw [rh]; split <;> omega
theorem Ly {m n : Nat} : Qo (some m) n ≤ m := by rw [rh]; split <;> omega
theorem lC {m : Option Nat} {n n' : Nat} (h : n ≤ n') : Qo m n ≤ Qo m n' := by
 cases m with
 | none => exact h
 | some m => rw [rh, rh]; split <;> split <;> omega
structure yJ (m : Option Nat) (d : Option Tmp) (σ σ' : zh) : Prop where
 n : σ'.n = σ.n
 nb : σ.nb ≤ σ'.nb
 bl : ∀ k, k < Qo m σ.nb → σ'.bl k = σ.bl k
 tm : ∀ t, d ≠ some t → σ'.tm t = σ.tm t
theorem yJ.refl {m : Option Nat} (d : Option Tmp) (σ : zh) : yJ m d σ σ := ⟨rfl, Nat.le_refl _, fun _ _ => rfl, fun _ _ => rfl⟩
theorem yJ.put {m : Option Nat} {σ σ' : zh} (h : yJ m none σ σ') (d : Option Tmp) (x : AV) : yJ m d σ (σ'.put d x) := by
 cases d with
 | none => exact h
 | some d => exact ⟨h.n, h.nb, h.bl, fun t ht => (zk _ _ fun e => ht (by rw [e])).trans (h.tm t (by simp))⟩
theorem yJ.add {m : Option Nat} (σ : zh) (B : OB) : yJ m none σ (σ.add B) :=
 ⟨rfl, Nat.le_succ _, fun _ hk => zk _ _ (Nat.ne_of_lt (Nat.lt_of_lt_of_le hk LQ)), fun _ _ => rfl⟩
theorem XA (σ : zh) (d : Option Tmp) (x : AV) : (σ.put d x).nb = σ.nb := by cases d <;> rfl
theorem wF (σ : zh) (d : Option Tmp) (x : AV) : (σ.put d x).bl = σ.bl := by cases d <;> rfl
theorem Xx (σ : zh) (d : Option Tmp) (x : AV) (B : OB) : (σ.put d x).add B = (σ.add B).put d x := by cases d <;> rfl
theorem put_comm {σ : zh} {d d' : Option Tmp} {x y : AV} (h : ∀ t, d = some t → d' ≠ some t) : (σ.put d x).put d' y = (σ.put d' y).put d x := by
 cases d with
 | none => rfl
 | some d => cases d' with
  | none => rfl
  | some d' =>
   simp only [zh.put, zh.mk.injEq, true_and, and_true]
   funext t
   by_cases h1 : t = d'
   ·subst h1
    rw [upd_same, zk _ _ (fun e => h d rfl (by rw [e])), upd_same]
   ·rw [zk _ _ h1]
    by_cases h2 : t = d
    ·subst h2; rw [upd_same, upd_same]
    ·rw [zk _ _ h2, zk _ _ h2, zk _ _ h1]
theorem yJ.ev {m : Option Nat} {σ σ' : zh} {d : Option Tmp} (h : yJ m d σ σ') {x : Operand} (hx : ∀ t, x = .tmp t → d ≠ some t) : σ'.ev x = σ.ev x := by
 cases x with
 | tmp t => simp only [zh.ev, h.n, h.tm t (hx t rfl)]
 | _ => rfl
theorem N5 {σ : zh} {d : Option Tmp} {v : AV} {x : Operand} (hx : ∀ t, x = .tmp t → d ≠ some t) : (σ.put d v).ev x = σ.ev x := ((yJ.refl (m := none) none σ).put d v).ev hx
def rP : Option Nat → AV → Bool
 | some m, .ns k _ _ => Nat.ble m k
 | _, _ => false
def Xe (P : Program) (G : Cx) (σ : zh) (o : Oper) (f : FuncId) (xs : List AV) (k : zh → Prop) : Prop :=
 match G.own f with
 | some _ => Ze o
 | none =>
  match Wg P G f (xs.map (lend σ.bl)) o.type with
  | true => x9 P G none f (xs.map (lend σ.bl)) o.type fun r => k (σ.put o.dst r)
  | false => Ze o
def ux (P : Program) (G : Cx) (m : Option Nat) (σ : zh) (o : Oper) (k : zh → Prop) : Prop :=
 match o.op with
 | .alloc elem =>
  match xe P σ elem with
  | some (σ', r) => k (σ'.put o.dst r)
  | none => Ze o
 | .box t x =>
  match Wn σ t (σ.sv x) with
  | some (σ', r) => Yf (σ.ev x).gprop (k (σ'.put o.dst r))
  | none => Ze o
 | .store _ _ _ => Ze o
 | .buildSlice t len parts =>
  if ((parts.toList.map fun p => σ.sv p.2).any AV.hasOwn || V1 (parts.toList.map (·.2))) = true then Ze o
  else
   match ZM P σ t len (parts.toList.map (·.1)) (parts.toList.map fun p => σ.sv p.2) with
   | some (σ', r) => Yf (Zc σ (parts.toList.map (·.2))) (k (σ'.put o.dst r))
   | none => Ze o
 | .makeSlice t l c =>
  match yK P σ t (σ.sv l) (σ.sv c) with
  | some (ps, σ', r) => Yf ((σ.ev l).gprop ++ (σ.ev c).gprop ++ ps) (k (σ'.put o.dst r))
  | none => Ze o
 | .call { callee := .value f, args, .. } =>
  match σ.sv f with
  | .fn (.func fid) nf first nc cap =>
   Yf ((σ.ev f).gprop ++ Zc σ args.toList) <|
    if (Yw nf first (args.toList.map σ.sv) nc cap).any AV.hasOwn then Xe P G σ o fid (Yw nf first (args.toList.map σ.sv) nc cap) k
    else
     match xy G σ fid (Yw nf first (args.toList.map σ.sv) nc cap) with
     | some (ps, σ', r) => Yf ps (k (σ'.put o.dst r))
     | none => Wy P G none fid (Yw nf first (args.toList.map σ.sv) nc cap) o.type fun r => k (σ.put o.dst r)
  | _ => Ze o
 | .call { callee := .builtin .append, args, argTypes } =>
  match args.toList, argTypes.toList with
  | [s, x], [t, t'] =>
   if t = t' then
    if ((σ.sv s).hasOwn && !rP m (σ.sv s)) = true then Ze o
    else
     match Ys P σ t (σ.sv s) (σ.sv x) with
     | some (ps, σ', r) => Yf ((σ.ev s).gprop ++ (σ.ev x).gprop ++ ps) (k (σ'.put o.dst r))
     | none => Ze o
   else Ze o
  | _, _ => Ze o
 | op =>
  match y6 P G.objs σ.bl σ.ev op with
  | some (ps, r) => Yf ps (k (σ.put o.dst r))
  | none => Ze o
def XF (P : Program) (G : Cx) (m : Option Nat) (ops : List Oper) (o : Oper) (σ : zh) (k : zh → Prop) : Prop :=
 match o.guard with
 | none => ux P G m σ o k
 | some (j, want) =>
  match YS ops σ j want with
  | some g =>
   match G.conc && !g with
   | true => k (σ.put o.dst (.gd false (UC P o.type)))
   | false => rE P G g σ o k
  | none => Ze o
end Go.Sx

namespace Go.Sx
open Go Go.RowKit
section
variable {P : Program} {G : Cx} {m : Option Nat} {ops : List Oper}
theorem TA {σ σ' : zh} {e : TypeId} {r : AV} (h : xe P σ e = some (σ', r)) : yJ m none σ σ' ∧ ∀ (d : Option Tmp) (x : AV), xe P (σ.put d x) e = some (σ'.put d x, r) := by
 unfold xe at h ⊢
 repeat' split at h
 all_goals first | cases h | skip
 ·rename_i hc
  refine ⟨yJ.add _ _, fun d x => ?_⟩
  simp only [Xx, XA, if_pos hc]
 ·rename_i hn hc
  refine ⟨yJ.add _ _, fun d x => ?_⟩
  simp only [Xx, XA, if_neg hn, if_pos hc]
 ·rename_i hc
  refine ⟨yJ.add _ _, fun d x => ?_⟩
  simp only [Xx, XA, if_pos hc]
theorem QZ {σ σ' : zh} {t : TypeId} {v r : AV} (h : Wn σ t v = some (σ', r)) : yJ m none σ σ' ∧ ∀ (d : Option Tmp) (x : AV), Wn (σ.put d x) t v = some (σ'.put d x, r) := by
 unfold Wn at h ⊢
 split at h
 ·rename_i n cs hc
  cases h
  exact ⟨yJ.add _ _, fun d x => by simp only [wF, XA, Xx, hc]⟩
 ·cases h
theorem T4 {σ σ' : zh} {t : TypeId} {n : Nat} {idx : List Nat} {xs : List AV} {r : AV} (h : ZM P σ t n idx xs = some (σ', r)) :
  yJ m none σ σ' ∧ ∀ (d : Option Tmp) (x : AV), ZM P (σ.put d x) t n idx xs = some (σ'.put d x, r) := by
 obtain ⟨rfl, h2⟩ := YJ h
 exact ⟨yJ.refl _ _, fun d x => h2 _⟩
theorem SB {σ σ' : zh} {t : TypeId} {l c r : AV} {ps : List zN} (h : yK P σ t l c = some (ps, σ', r)) :
  yJ m none σ σ' ∧ ∀ (d : Option Tmp) (x : AV), yK P (σ.put d x) t l c = some (ps, σ'.put d x, r) := by
 unfold yK at h ⊢
 repeat' split at h
 all_goals first | cases h | skip
 rename_i hc
 refine ⟨yJ.add _ _, fun d x => ?_⟩
 simp only [Xx, XA, if_pos hc]
theorem Rh {G : Cx} {σ σ' : zh} {f : FuncId} {xs : List AV} {r : AV} {ps : List zN} (h : xy G σ f xs = some (ps, σ', r)) :
  yJ m none σ σ' ∧ ∀ d x, xy G (σ.put d x) f xs = some (ps, σ'.put d x, r) := by
 unfold xy at h ⊢
 split at h
 ·rename_i hf
  cases h
  exact ⟨yJ.add _ _, fun d x => by simp only [Xx, XA]⟩
 ·cases h
theorem qL {G : Cx} {σ : zh} {d : Option Tmp} {x : AV} {f : FuncId} {xs : List AV} (h : xy G (σ.put d x) f xs = none) : xy G σ f xs = none := by
 unfold xy at h ⊢
 grind
theorem oX {m : Option Nat} {x : AV} (h : ¬ ((x.hasOwn && !rP m x) = true)) : x.hasOwn = false ∨ rP m x = true := by
 grind
theorem WG {σ σ' : zh} {t : TypeId} {s v r : AV} {ps : List zN} (hs : s.hasOwn = false ∨ rP m s = true) (h : Ys P σ t s v = some (ps, σ', r)) :
  yJ m none σ σ' ∧ ∀ (d : Option Tmp) (x : AV), Ys P (σ.put d x) t s v = some (ps, σ'.put d x, r) := by
 unfold Ys at h ⊢
 repeat' split at h
 all_goals first | cases h | skip
 ·refine ⟨yJ.add _ _, fun d x => ?_⟩
  simp only [Xx, XA, wF]
  simp_all
 ·refine ⟨⟨rfl, Nat.le_refl _, fun k' _ => rfl, fun _ _ => rfl⟩, fun d x => ?_⟩
  simp only [wF]
  simp_all
 ·refine ⟨yJ.add _ _, fun d x => ?_⟩
  simp only [Xx, XA, wF]
  simp_all
 ·rename_i k n _ _ _ _ _ _ hcc
  have hm : ∀ k', k' < Qo m σ.nb → k' ≠ k := by
   rcases hs with hs | hs
   ·cases hs
   ·cases m with
    | none => cases hs
    | some m' =>
     have h1 : m' ≤ k := Nat.le_of_ble_eq_true hs
     intro k' hk'
     have := Ly (m := m') (n := σ.nb)
     omega
  refine ⟨⟨rfl, Nat.le_succ _, fun k' hk' => ?_, fun _ _ => rfl⟩, fun d x => ?_⟩
  ·show upd (upd σ.bl k .dead) σ.nb _ k' = _
   rw [zk _ _ (Nat.ne_of_lt (Nat.lt_of_lt_of_le hk' LQ)), zk _ _ (hm k' hk')]
  ·simp only [XA, wF]
   cases d <;> simp_all [zh.put]
def old (σ : zh) : Option Tmp → AV
 | some t => σ.tm t
 | none => .junk
theorem OV (σ : zh) (d : Option Tmp) (x : AV) : (σ.put d x).put d (old σ d) = σ := by
 cases d with
 | none => rfl
 | some d =>
  obtain ⟨n, tm, nb, bl⟩ := σ
  simp only [zh.put, old, zh.mk.injEq, true_and, and_true]
  funext t
  by_cases h : t = d
  ·subst h; rw [upd_same]
  ·rw [zk _ _ h, zk _ _ h]
theorem lI {f : zh → Option (zh × AV)} (hf : ∀ σ σ' r, f σ = some (σ', r) → yJ m none σ σ' ∧ ∀ d x, f (σ.put d x) = some (σ'.put d x, r)) {σ σ1 : zh} {d : Option Tmp} {x r : AV}
  (h : f (σ.put d x) = some (σ1, r)) : ∃ σ', f σ = some (σ', r) ∧ yJ m none σ σ' ∧ σ1 = σ'.put d x := by
 obtain ⟨h1, h2⟩ := hf _ _ _ h
 have h3 := h2 d (old σ d)
 rw [OV] at h3
 grind
theorem ma {f : zh → Option (List zN × zh × AV)} (hf : ∀ σ ps σ' r, f σ = some (ps, σ', r) → yJ m none σ σ' ∧ ∀ d x, f (σ.put d x) = some (ps, σ'.put d x, r)) {σ σ1 : zh} {d : Option Tmp} {x r : AV} {ps : List zN}
  (h : f (σ.put d x) = some (ps, σ1, r)) : ∃ σ', f σ = some (ps, σ', r) ∧ yJ m none σ σ' ∧ σ1 = σ'.put d x := by
 obtain ⟨h1, h2⟩ := hf _ _ _ _ h
 have h3 := h2 d (old σ d)
 rw [OV] at h3
 grind
theorem Z9 {σ σ' : zh} {d d' : Option Tmp} {x y : AV} {K : zh → Prop} (h : yJ m none σ σ') (hd : ∀ t, d = some t → d' ≠ some t) (hK : K ((σ'.put d x).put d' y)) :
  yJ m d' σ (σ'.put d' y) ∧ K ((σ'.put d' y).put d x) := ⟨h.put d' y, by rw [put_comm hd] at hK; exact hK⟩
theorem NX {σ : zh} {d : Option Tmp} {x : AV} {j : Nat} {want : Bool} (h : ∀ t, d = some t → (ops[j]?).bind (·.dst) ≠ some t) : YS ops (σ.put d x) j want = YS ops σ j want := by
 unfold YS
 cases ho : ops[j]? with
 | none => rfl
 | some o =>
  simp only
  cases hd : o.dst with
  | none => rfl
  | some t =>
   simp only
   cases d with
   | none => rfl
   | some d =>
    have hne : t ≠ d := fun e => h d rfl (by rw [ho, Option.bind_some, hd, e])
    simp only [zh.put, zk _ _ hne]
theorem uF {ex : TypeId → (AV → Prop) → Prop} (hex : ∀ t k k', (∀ r, k r → k' r) → ex t k → ex t k') : ∀ (ts : List TypeId) (k k' : List AV → Prop), (∀ r, k r → k' r) → Wb ex ts k → Wb ex ts k'
 | [], _, _, h, hk => h _ hk
 | _ :: ts, _, _, h, hk => hex _ _ _ (fun _ hv => uF hex ts _ _ (fun _ hr => h _ hr) hv) hk
theorem sk : ∀ (n : Nat) (t : TypeId) (k k' : AV → Prop), (∀ r, k r → k' r) → Ux P n t k → Ux P n t k'
 | 0, _, _, _, h, ⟨r, hr⟩ => ⟨r, h _ hr⟩
 | n + 1, t, k, k', h, hk => by
  unfold Ux at hk ⊢
  split at hk
  ·grind
  ·grind
  ·grind
  ·grind
  ·exact uF (sk n) _ _ _ (fun r hr => h _ hr) hk
  grind
theorem zA {ps : List zN} {k k' : Prop} (h : k → k') (hp : Yf ps k) : Yf ps k' := by
 rw [Zo] at hp ⊢
 simp_all
theorem xP {g : Bool} {ps : List zN} {k k' : Prop} (h : k → k') (hp : QV g ps k) : QV g ps k' := by
 rw [yi] at hp ⊢
 simp_all
theorem Tw {o : Oper} {d : Option Tmp} (h : ∀ t, d = some t → t ∉ o.looksAt ops.toArray) : ∀ x ∈ o.op.operands, ∀ t, x = .tmp t → d ≠ some t := fun x hx t hxt hd =>
 h t hd (List.mem_append_left _ (List.mem_filterMap.2 ⟨x, Array.mem_toList_iff.2 hx, by rw [hxt]⟩))
theorem uH {o : Oper} {d : Option Tmp} {j : Nat} {want : Bool} (h : ∀ t, d = some t → t ∉ o.looksAt ops.toArray) (hg : o.guard = some (j, want)) :
  ∀ t, d = some t → (ops[j]?).bind (·.dst) ≠ some t := fun t hd he =>
 h t hd (List.mem_append_right _ (by rw [hg]; simp only [List.getElem?_toArray]; rw [he]; simp))
theorem tJ {g : Option Bool} {ps : List zN} {k k' : Prop} (h : k → k') (hp : MZ g ps k) : MZ g ps k' := by
 cases g with
 | none => exact zA h hp
 | some g => exact xP h hp
theorem Yo {P : Program} {G : Cx} {g : Option Bool} {f : FuncId} {xs : List AV} {t : TypeId} {K K' : AV → Prop} (h : ∀ r, K r → K' r) (hk : x9 P G g f xs t K) : x9 P G g f xs t K' := by
 unfold x9 at hk ⊢
 split at hk
 ·exact tJ (h _) hk
 ·exact sk 3 _ _ _ (fun r hr => ⟨hr.1, h r hr.2⟩) hk
theorem wc {P : Program} {G : Cx} {g : Option Bool} {f : FuncId} {xs : List AV} {t : TypeId} {K K' : AV → Prop} (h : ∀ r, K r → K' r) (hk : Wy P G g f xs t K) : Wy P G g f xs t K' := by
 unfold Wy at hk ⊢
 split at hk
 ·grind
 ·exact Yo h hk
theorem YI {σ σ' : zh} {l : List Operand} (h : ∀ x ∈ l, σ'.ev x = σ.ev x) : Zc σ' l = Zc σ l := by
 unfold Zc
 rw [List.flatMap_def, List.flatMap_def]
 congr 1
 simp_all
theorem YO {σ σ' : zh} {x : Operand} (h : σ'.ev x = σ.ev x) : σ'.sv x = σ.sv x := by unfold zh.sv; rw [h]
theorem qG {σ : zh} {o : Oper} {d : Option Tmp} {x : AV} {f : FuncId} {xs : List AV} {K : zh → Prop} (h2 : ∀ t, d = some t → o.dst ≠ some t) (h : Xe P G (σ.put d x) o f xs K) :
  Xe P G σ o f xs fun σ' => yJ m o.dst σ σ' ∧ K (σ'.put d x) := by
 unfold Xe at h ⊢
 simp only [wF, XA, Xx] at h
 split at h
 ·exact h.elim
 ·split at h
  ·exact Yo (fun r hk => Z9 (yJ.refl none σ) h2 hk) h
  omega
theorem Rr {σ : zh} {o : Oper} {f : FuncId} {xs : List AV} {K K' : zh → Prop} (hk : ∀ σ, K σ → K' σ) (h : Xe P G σ o f xs K) : Xe P G σ o f xs K' := by
 unfold Xe at h ⊢
 split at h
 ·exact h.elim
 ·split at h
  ·exact Yo (fun r h => hk _ h) h
  omega
theorem m6 {σ : zh} {o : Oper} {d : Option Tmp} {x : AV} {K : zh → Prop} (h1 : ∀ x ∈ o.op.operands, ∀ t, x = .tmp t → d ≠ some t) (h2 : ∀ t, d = some t → o.dst ≠ some t)
  (h : ux P G m (σ.put d x) o K) : ux P G m σ o fun σ' => yJ m o.dst σ σ' ∧ K (σ'.put d x) := by
 have hev : ∀ y ∈ o.op.operands, (σ.put d x).ev y = σ.ev y := fun y hy => N5 (h1 y hy)
 have hsv : ∀ y ∈ o.op.operands, (σ.put d x).sv y = σ.sv y := fun y hy => YO (hev y hy)
 have gr : ∀ r, K ((σ.put d x).put o.dst r) → yJ m o.dst σ (σ.put o.dst r) ∧ K ((σ.put o.dst r).put d x) := fun r hk => Z9 (yJ.refl none σ) h2 hk
 unfold ux at h ⊢
 split at h
 ·rename_i e ho
  simp only
  split at h
  ·rename_i σ1 r he
   obtain ⟨σ', g1, g2, rfl⟩ := lI (f := fun σ => xe P σ e) (fun _ _ _ h => TA h) he
   simp only [g1]
   exact Z9 g2 h2 h
  ·exact h.elim
 ·rename_i t y ho
  have e1 := hev y (by rw [ho]; simp [Op.operands])
  have e2 := hsv y (by rw [ho]; simp [Op.operands])
  simp only [e1, e2] at h
  simp only
  split at h
  ·rename_i σ1 r he
   obtain ⟨σ', g1, g2, rfl⟩ := lI (f := fun s => Wn s t (σ.sv y)) (fun _ _ _ h => QZ h) he
   simp only [g1]
   exact zA (Z9 g2 h2) h
  ·exact h.elim
 ·exact h.elim
 ·rename_i t n parts ho
  have hin : ∀ p ∈ parts.toList, p.2 ∈ o.op.operands := fun p hp => by rw [ho]; simp only [Op.operands, List.mem_toArray, List.mem_map]; exact ⟨p, hp, rfl⟩
  have e1 : (parts.toList.map fun p => (σ.put d x).sv p.2) = parts.toList.map fun p => σ.sv p.2 := List.map_congr_left fun p hp => hsv _ (hin p hp)
  have e2 : Zc (σ.put d x) (parts.toList.map (·.2)) = Zc σ (parts.toList.map (·.2)) := YI fun y hy => by
   obtain ⟨p, hp, rfl⟩ := List.mem_map.1 hy
   exact hev _ (hin p hp)
  simp only [e1, e2] at h
  simp only
  split at h
  ·exact h.elim
  ·rename_i hno
   rw [if_neg hno]
   split at h
   ·rename_i σ1 r he
    obtain ⟨σ', g1, g2, rfl⟩ := lI (f := fun s => ZM P s t n (parts.toList.map fun p : Nat × Operand => p.1) (parts.toList.map fun p : Nat × Operand => σ.sv p.2)) (fun _ _ _ h => T4 h) he
    simp only [g1]
    exact zA (Z9 g2 h2) h
   ·exact h.elim
 ·rename_i t l c ho
  have e1 := hev l (by rw [ho]; simp [Op.operands])
  have e2 := hev c (by rw [ho]; simp [Op.operands])
  simp only [e1, e2, YO e1, YO e2] at h
  simp only
  split at h
  ·rename_i ps σ1 r he
   obtain ⟨σ', g1, g2, rfl⟩ := ma (f := fun s => yK P s t (σ.sv l) (σ.sv c)) (fun _ _ _ _ h => SB h) he
   simp only [g1]
   exact zA (Z9 g2 h2) h
  ·exact h.elim
 ·rename_i f args ts ho
  have e1 := hev f (by rw [ho]; simp [Op.operands, Call.operands])
  have hin : ∀ y ∈ args.toList, y ∈ o.op.operands := fun y hy => by rw [ho]; simp only [Op.operands, Call.operands, Array.mem_append]; exact .inr (Array.mem_toList_iff.1 hy)
  have e2 : args.toList.map (σ.put d x).sv = args.toList.map σ.sv := List.map_congr_left fun y hy => hsv _ (hin y hy)
  have e3 : Zc (σ.put d x) args.toList = Zc σ args.toList := YI fun y hy => hev _ (hin y hy)
  simp only [e1, e2, e3, YO e1] at h
  simp only
  split at h
  ·refine zA (fun h => ?_) h
   split at h
   ·rename_i hown
    rw [if_pos hown]
    exact qG h2 h
   ·rename_i hno
    rw [if_neg hno]
    split at h
    ·rename_i ps σ1 r he
     obtain ⟨σ', g1, g2, rfl⟩ := ma (f := fun u => xy G u _ _) (fun _ _ _ _ h => Rh h) he
     simp only [g1]
     exact zA (Z9 g2 h2) h
    ·rename_i he
     rw [qL he]
     exact wc gr h
  ·exact h.elim
 ·rename_i args ts ho
  have hin : ∀ y ∈ args.toList, y ∈ o.op.operands := fun y hy => by rw [ho]; simp only [Op.operands, Call.operands, Array.mem_append]; exact .inr (Array.mem_toList_iff.1 hy)
  simp only
  split at h
  ·rename_i s y t t' ha ht
   have e1 := hev s (hin s (by rw [ha]; simp))
   have e2 := hev y (hin y (by rw [ha]; simp))
   simp only [e1, e2, YO e1, YO e2] at h
   split at h
   ·rename_i htt
    rw [if_pos htt]
    split at h
    ·exact h.elim
    ·rename_i hno
     rw [if_neg hno]
     split at h
     ·rename_i ps σ1 r he
      obtain ⟨σ', g1, g2, rfl⟩ := ma (f := fun u => Ys P u t (σ.sv s) (σ.sv y)) (fun _ _ _ _ h => WG (oX hno) h) he
      simp only [g1]
      exact zA (Z9 g2 h2) h
     ·rename_i he0
      have e0 : Ys P σ t (σ.sv s) (σ.sv y) = none := by
       cases h0 : Ys P σ t (σ.sv s) (σ.sv y) with
       | none => rfl
       | some q =>
        obtain ⟨ps, σ1, r⟩ := q
        rw [(WG (oX hno) h0).2 d x] at he0
        cases he0
      exact h.elim
   ·exact h.elim
  ·exact h.elim
 ·have e : y6 P G.objs (σ.put d x).bl (σ.put d x).ev o.op = y6 P G.objs σ.bl σ.ev o.op := Vb hev fun _ _ _ _ => by rw [wF]
  rw [e] at h
  split at h
  ·rename_i ps r he
   exact zA (gr r) h
  ·exact h.elim
theorem kY {g : Bool} {σ : zh} {o : Oper} {d : Option Tmp} {x : AV} {K : zh → Prop} (h1 : ∀ x ∈ o.op.operands, ∀ t, x = .tmp t → d ≠ some t) (h2 : ∀ t, d = some t → o.dst ≠ some t)
  (h : rE P G g (σ.put d x) o K) : rE P G g σ o fun σ' => yJ m o.dst σ σ' ∧ K (σ'.put d x) := by
 have hev : ∀ y ∈ o.op.operands, (σ.put d x).ev y = σ.ev y := fun y hy => N5 (h1 y hy)
 have hsv : ∀ y ∈ o.op.operands, (σ.put d x).sv y = σ.sv y := fun y hy => YO (hev y hy)
 have gr : ∀ r, K ((σ.put d x).put o.dst r) → yJ m o.dst σ (σ.put o.dst r) ∧ K ((σ.put o.dst r).put d x) := fun r hk => Z9 (yJ.refl none σ) h2 hk
 unfold rE at h ⊢
 split at h
 ·rename_i f args ts ho
  have e1 := hev f (by rw [ho]; simp [Op.operands, Call.operands])
  have hin : ∀ y ∈ args.toList, y ∈ o.op.operands := fun y hy => by rw [ho]; simp only [Op.operands, Call.operands, Array.mem_append]; exact .inr (Array.mem_toList_iff.1 hy)
  have e2 : args.toList.map (σ.put d x).sv = args.toList.map σ.sv := List.map_congr_left fun y hy => hsv _ (hin y hy)
  have e3 : Zc (σ.put d x) args.toList = Zc σ args.toList := YI fun y hy => hev _ (hin y hy)
  simp only [e1, e2, e3, YO e1, wF] at h
  simp only
  split at h
  ·refine xP (fun h => ?_) h
   split at h
   ·rename_i hno
    rw [if_pos hno]
    split at h
    ·split at h
     ·exact gr _ h
     ·exact h.elim
    ·split at h
     ·rename_i hs
      rw [if_pos hs]
      exact Yo (fun r hr => gr _ hr) h
     ·exact h.elim
   ·rename_i hno
    rw [if_neg hno]
    exact wc (fun r hr => gr _ hr) h
  ·exact h.elim
 ·rename_i tb lb parts ho
  have hin : ∀ p ∈ parts.toList, p.2 ∈ o.op.operands := fun p hp => by rw [ho]; simp only [Op.operands, List.mem_toArray, List.mem_map]; exact ⟨p, hp, rfl⟩
  have e1 : (parts.toList.map fun p => (σ.put d x).sv p.2) = parts.toList.map fun p => σ.sv p.2 := List.map_congr_left fun p hp => hsv _ (hin p hp)
  have e2 : Zc (σ.put d x) (parts.toList.map (·.2)) = Zc σ (parts.toList.map (·.2)) := YI fun y hy => by
   obtain ⟨p, hp, rfl⟩ := List.mem_map.1 hy
   exact hev _ (hin p hp)
  rw [e1, e2] at h
  split at h
  ·exact h.elim
  ·rename_i hno
   rw [if_neg hno]
   split at h
   ·rename_i σ1 r he
    rw [(YJ he).2 σ]
    exact xP (gr _) h
   ·exact h.elim
 ·have e : y6 P G.objs (σ.put d x).bl (σ.put d x).ev o.op = y6 P G.objs σ.bl σ.ev o.op := Vb hev fun _ _ _ _ => by rw [wF]
  rw [e] at h
  split at h
  ·exact xP (gr _) h
  ·exact h.elim
theorem O6 {σ : zh} {o : Oper} {d : Option Tmp} {x : AV} {K : zh → Prop} (h1 : ∀ t, d = some t → t ∉ o.looksAt ops.toArray) (h2 : ∀ t, d = some t → o.dst ≠ some t)
  (h : XF P G m ops o (σ.put d x) K) : XF P G m ops o σ fun σ' => yJ m o.dst σ σ' ∧ K (σ'.put d x) := by
 unfold XF at h ⊢
 split at h
 ·exact m6 (Tw h1) h2 h
 ·rename_i j want hg
  rw [NX (uH h1 hg)] at h
  split at h
  ·rename_i g _
   cases hc : G.conc && !g with
   | true =>
    rw [hc] at h
    exact Z9 (yJ.refl none σ) h2 h
   | false =>
    rw [hc] at h
    exact kY (Tw h1) h2 h
  omega
theorem Oe {σ : zh} {o : Oper} {K K' : zh → Prop} (hk : ∀ σ, K σ → K' σ) (h : ux P G m σ o K) : ux P G m σ o K' := by
 unfold ux at h ⊢
 split at h
 ·grind
 ·split at h
  ·exact zA (hk _) h
  ·exact h
 ·exact h
 ·split at h
  ·exact h.elim
  ·rename_i hno
   rw [if_neg hno]
   split at h
   ·exact zA (hk _) h
   ·exact h
 ·split at h
  ·exact zA (hk _) h
  ·exact h
 ·split at h
  ·refine zA (fun h => ?_) h
   split at h
   ·rename_i hown
    rw [if_pos hown]
    exact Rr hk h
   ·rename_i hno
    rw [if_neg hno]
    split at h
    ·exact zA (hk _) h
    ·exact wc (fun r hr => hk _ hr) h
  ·exact h
 ·split at h
  ·split at h
   ·rename_i htt
    rw [if_pos htt]
    split at h
    ·exact h.elim
    ·rename_i hno
     rw [if_neg hno]
     split at h
     ·exact zA (hk _) h
     ·exact h
   simp_all
  ·exact h
 ·split at h
  ·exact zA (hk _) h
  ·exact h
theorem Vp {g : Bool} {σ : zh} {o : Oper} {K K' : zh → Prop} (hk : ∀ σ, K σ → K' σ) (h : rE P G g σ o K) : rE P G g σ o K' := by
 unfold rE at h ⊢
 split at h
 ·split at h
  ·refine xP (fun h => ?_) h
   split at h
   ·rename_i hno
    rw [if_pos hno]
    split at h
    ·grind
    ·split at h
     ·rename_i hs
      rw [if_pos hs]
      exact Yo (fun r hr => hk _ hr) h
     simp_all
   ·rename_i hno
    rw [if_neg hno]
    exact wc (fun r hr => hk _ hr) h
  ·exact h
 ·split at h
  ·exact h.elim
  ·rename_i hno
   rw [if_neg hno]
   split at h
   ·exact xP (hk _) h
   ·exact h
 ·split at h
  ·exact xP (hk _) h
  ·exact h
theorem VZ {σ : zh} {o : Oper} {K K' : zh → Prop} (hk : ∀ σ, K σ → K' σ) (h : XF P G m ops o σ K) : XF P G m ops o σ K' := by
 unfold XF at h ⊢
 split at h
 ·exact Oe hk h
 ·split at h
  ·rename_i g _
   cases hc : G.conc && !g with
   | true => simp_all
   | false => rw [hc] at h; exact Vp hk h
  ·exact h
theorem TB {σ : zh} {xs : List AV} (h : ¬ (xs.any AV.hasOwn) = true) : Y8 σ xs = some (σ, xs) := by unfold Y8; rw [if_neg h]
theorem lX {σ : zh} {o : Oper} {K : zh → Prop} (h : ux P G m σ o K) : JM P G σ o K := by
 unfold ux at h
 unfold JM
 split at h
 ·grind
 ·grind
 ·exact h.elim
 ·rename_i ho
  simp only [ho]
  split at h
  ·exact h.elim
  ·rename_i hno
   rw [RY hno, TB fun h => hno (by rw [h]; rfl)]
   exact h
 ·grind
 ·rename_i ho
  simp only [ho]
  split at h
  ·rename_i hf
   simp only [hf]
   refine zA (fun h => ?_) h
   split at h
   ·rename_i hown
    unfold WN
    rw [if_pos hown]
    unfold Xe at h
    split at h
    ·exact h.elim
    ·rename_i ho0
     rw [ho0]
     simp only
     split at h
     ·simp_all
     ·exact h.elim
   ·rename_i hno
    unfold WN
    rw [if_neg hno]
    split at h
    ·simp_all
    rename_i he
    rw [he]
    unfold Wy at h
    split at h
    ·exact h.elim
    ·exact h
  ·exact h.elim
 ·rename_i ho
  simp only [ho]
  split at h
  ·rename_i ha ht
   simp only [ha, ht]
   split at h
   ·split at h
    ·exact h.elim
    grind
   ·exact h.elim
  simp_all
 grind
theorem OJ {g : Bool} {σ : zh} {o : Oper} {K : zh → Prop} (h : rE P G g σ o K) : Ry P G g σ o K := by
 unfold Ry
 split
 ·rename_i ho
  split
  ·rename_i hf
   split
   ·rename_i hi
    unfold rE at h
    simp only [ho, hf, yi] at h
    obtain ⟨h1, h2⟩ := h
    unfold Wy at h2
    rw [hi] at h2
    cases g with
    | true => split at h2 <;> exact h2.elim
    | false => split at h2 <;> exact h2
   ·exact h
  ·rename_i hf
   unfold rE at h
   simp only [ho, hf] at h
   exact h.elim
  ·exact h
 ·exact h
theorem So {σ : zh} {o : Oper} {K : zh → Prop} (h : XF P G m ops o σ K) : T5 P G ops o σ K := by
 unfold XF at h
 unfold T5
 cases hg : o.guard with
 | none => rw [hg] at h; exact lX h
 | some jw =>
  rw [hg] at h
  simp only at h ⊢
  split at h
  ·rename_i g hga
   simp only [hga]
   cases hc : G.conc && !g with
   | true => simp_all
   | false => rw [hc] at h; exact OJ h
  simp_all
end
end Go.Sx
