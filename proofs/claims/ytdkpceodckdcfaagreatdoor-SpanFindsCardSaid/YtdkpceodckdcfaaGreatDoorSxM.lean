/- Regions whose operations come in any order: what only computes or reads may be taken first. -/
import Derived.Test.YtdkpceodckdcfaaGreatDoorSxK
set_option linter.unusedSimpArgs false
set_option linter.unusedVariables false
namespace Go.Sx
open Go Go.RowKit
def AV.top : AV → Option Nat
 | .np k _ | .ns k _ _ | .ap k _ _ | .ps k _ => some k
 | _ => none
section
variable {P : Program} {bl bl' : Nat → OB}
theorem SR {sh : Option Nat} {x : AV} (h : ∀ k, x.top = some k → bl' k = bl k) : xX bl' sh x = xX bl sh x := by
 cases x <;> simp only [xX] <;> rw [h _ rfl]
theorem qp {x : AV} (h : ∀ k, x.top = some k → bl' k = bl k) : Wu bl' x = Wu bl x := by
 cases x <;> simp only [Wu] <;> first | rw [h _ rfl] | (split <;> first | rfl | (rename_i e; cases e) | simp_all)
theorem qS {P : Program} {bl bl' : Nat → OB} {s d : TypeId} {x : AV} (h : ∀ k, x.top = some k → bl' k = bl k) : T4 P bl' s d x = T4 P bl s d x := by
 have e : U0 bl' 1 x = U0 bl 1 x := by
  cases x <;> first | rfl | skip
  rename_i k off m
  unfold U0
  simp only [h k rfl]
 unfold T4
 rw [e]
theorem RR {x : AV} {d : Nat} (h : ∀ k, x.top = some k → bl' k = bl k) : x.shift bl' d = x.shift bl d := by
 cases x <;> simp only [AV.shift] <;> rw [h _ rfl]
theorem uD {t : TypeId} {x ix : AV} (h : ∀ k, x.top = some k → bl' k = bl k) : Y2 P bl' t x ix = Y2 P bl t x ix := by
 unfold Y2
 split
 ·split
  ·cases x with
   | ns k off len => have e := h k rfl; cases P.info? _ <;> simp only [e]
   | ps k len => have e := h k rfl; cases P.info? _ <;> simp only [e]
   | _ => cases P.info? _ <;> rfl
  ·cases x with
   | ap k i j => have e := h k rfl; cases P.info? _ <;> cases j <;> simp only [e]
   | np k off => have e := h k rfl; cases P.info? _ <;> simp only [e]
   | _ => cases P.info? _ <;> rfl
  ·rfl
 ·rfl
theorem qY {t : TypeId} {x : AV} {lo hi mx : Option AV} (h : ∀ k, x.top = some k → bl' k = bl k) : Wc P bl' t x lo hi mx = Wc P bl t x lo hi mx := by
 unfold Wc
 rcases P.underlying t with _ | u
 ·rfl
 ·cases u with
  | string =>
   grind
  | slice e =>
   cases x with
   | ns k off len =>
    have e := h k rfl
    grind
   | xl => grind
   | _ => rfl
  | _ => rfl
theorem oI {t : TypeId} {x : AV} (h : ∀ k, x.top = some k → bl' k = bl k) : sj P bl' t x = sj P bl t x := by
 unfold sj
 rcases P.underlying t with _ | u
 ·rfl
 ·cases x with
  | ns k off len =>
   have e := h k rfl
   grind
  | v x => grind
  | _ => cases u <;> rfl
theorem N2 {b : Builtin} {ts : List TypeId} {xs : List AV} (h : ∀ x ∈ xs, ∀ k, x.top = some k → bl' k = bl k) : QZ P bl' b ts xs = QZ P bl b ts xs := by
 unfold QZ
 split <;> first | rfl | exact oI (h _ (by simp))
theorem RX {x : AV} (h : ∀ k, x.top = some k → bl' k = bl k) : vJ bl' x = vJ bl x := by
 unfold vJ
 cases x with
 | ns k off len => simp only [h k rfl]
 | _ => rfl
theorem pS {op : BinOp} {t : TypeId} {x y : AV} (h1 : ∀ k, x.top = some k → bl' k = bl k) (h2 : ∀ k, y.top = some k → bl' k = bl k) : nQ P bl' op t x y = nQ P bl op t x y := by
 unfold nQ Rx
 rw [RX h1]
 cases y with
 | np k' o' => simp only [h2 k' rfl]
 | v u =>
  grind
 | _ => rfl
theorem V5 {ev ev' : Operand → AV} {o : Op} (he : ∀ x ∈ o.operands, ev' x = ev x) (hb : ∀ x ∈ o.operands, ∀ k, (ev x).strip.top = some k → bl' k = bl k) :
  yA P bl' ev' o = yA P bl ev o := by
 have hg : ((Ye o).flatMap fun x => (ev' x).gprop) = (Ye o).flatMap fun x => (ev x).gprop := by
  rw [List.flatMap_def, List.flatMap_def]
  congr 1
  refine List.map_congr_left fun x hx => ?_
  rw [he x]
  cases o <;> first | exact Array.mem_toList_iff.1 hx | cases hx
 have hr : ZD P bl' ev' (fun x => (ev' x).strip) o = ZD P bl ev (fun x => (ev x).strip) o := by
  have hm : ∀ l : List Operand, (∀ x ∈ l, x ∈ o.operands) → l.map (fun x => (ev' x).strip) = l.map fun x => (ev x).strip := fun l hl => List.map_congr_left fun x hx => by rw [he x (hl x hx)]
  have ho : ∀ l : Option Operand, (∀ x, l = some x → x ∈ o.operands) → l.map (fun x => (ev' x).strip) = l.map fun x => (ev x).strip := fun l hl => by
   cases l with
   | none => rfl
   | some x => simp_all
  cases o with
  | move x => simp only [ZD, he x (by simp [Op.operands])]
  | assign x => simp only [ZD, he x (by simp [Op.operands])]
  | pick c a b => simp only [ZD, he c (by simp [Op.operands]), he a (by simp [Op.operands]), he b (by simp [Op.operands])]
  | load t x =>
   have h := hb x (by simp [Op.operands])
   simp only [ZD, he x (by simp [Op.operands]), SR h]
  | nilCheck x =>
   have h := hb x (by simp [Op.operands])
   simp only [ZD, he x (by simp [Op.operands]), qp h]
  | binOp op t x y t' =>
   have h1 := hb x (by simp [Op.operands])
   have h2 := hb y (by simp [Op.operands])
   simp only [ZD, he x (by simp [Op.operands]), he y (by simp [Op.operands]), pS h1 h2]
  | build t parts =>
   have : (parts.toList.map fun p => (p.1, (ev' p.2).strip)) = parts.toList.map fun p => (p.1, (ev p.2).strip) := List.map_congr_left fun p hp => by
    rw [he p.2 (by simp only [Op.operands, List.mem_toArray, List.mem_map]; exact ⟨p, hp, rfl⟩)]
   simp only [ZD, this]
  | unOp op t x => simp only [ZD, he x (by simp [Op.operands])]
  | convert s d x =>
   have h := hb x (by simp [Op.operands])
   simp only [ZD, he x (by simp [Op.operands]), qS h]
  | makeFunc f a b =>
   simp only [ZD, hm a.toList fun x hx => by simp only [Op.operands, Array.mem_append]; exact .inl (Array.mem_toList_iff.1 hx),
    hm b.toList fun x hx => by simp only [Op.operands, Array.mem_append]; exact .inr (Array.mem_toList_iff.1 hx)]
  | slice t x a b c =>
   have h := hb x (by simp [Op.operands])
   simp only [ZD, he x (by simp [Op.operands]), qY h, ho a fun x hx => by simp [Op.operands, hx], ho b fun x hx => by simp [Op.operands, hx],
    ho c fun x hx => by simp [Op.operands, hx]]
  | fieldAddr t x f =>
   have h := hb x (by simp [Op.operands])
   simp only [ZD, he x (by simp [Op.operands]), RR h]
  | field t x f => simp only [ZD, he x (by simp [Op.operands])]
  | indexAddr t x i =>
   have h := hb x (by simp [Op.operands])
   simp only [ZD, he x (by simp [Op.operands]), he i (by simp [Op.operands]), uD h]
  | index t x i => simp only [ZD, he x (by simp [Op.operands]), he i (by simp [Op.operands])]
  | extract x i => simp only [ZD, he x (by simp [Op.operands])]
  | call c =>
   obtain ⟨cal, args, ts⟩ := c
   cases cal with
   | builtin b =>
    have hin : ∀ x ∈ args.toList, x ∈ (Op.call ⟨.builtin b, args, ts⟩).operands := fun x hx => by simpa [Op.operands, Call.operands] using hx
    simp only [ZD, hm _ hin]
    rw [N2]
    grind
   | _ => rfl
  | _ => rfl
 unfold yA
 rw [hr, hg]
end
def Mh : Option Nat → Nat → Nat
 | none, n => n
 | some m, n => bif Nat.ble m n then m else n
theorem rS (m n : Nat) : Mh (some m) n = if m ≤ n then m else n := by
 show (bif Nat.ble m n then m else n) = _
 simp
theorem ME {m : Option Nat} {n : Nat} : Mh m n ≤ n := by
 cases m with
 | none => exact Nat.le_refl _
 | some m => rw [rS]; split <;> omega
theorem M3 {m n : Nat} : Mh (some m) n ≤ m := by rw [rS]; split <;> omega
theorem lG {m : Option Nat} {n n' : Nat} (h : n ≤ n') : Mh m n ≤ Mh m n' := by
 cases m with
 | none => exact h
 | some m => rw [rS, rS]; split <;> split <;> omega
structure yJ (m : Option Nat) (d : Option Tmp) (σ σ' : ze) : Prop where
 n : σ'.n = σ.n
 nb : σ.nb ≤ σ'.nb
 bl : ∀ k, k < Mh m σ.nb → σ'.bl k = σ.bl k
 tm : ∀ t, d ≠ some t → σ'.tm t = σ.tm t
theorem yJ.refl {m : Option Nat} (d : Option Tmp) (σ : ze) : yJ m d σ σ := ⟨rfl, Nat.le_refl _, fun _ _ => rfl, fun _ _ => rfl⟩
theorem yJ.put {m : Option Nat} {σ σ' : ze} (h : yJ m none σ σ') (d : Option Tmp) (x : AV) : yJ m d σ (σ'.put d x) := by
 cases d with
 | none => exact h
 | some d => exact ⟨h.n, h.nb, h.bl, fun t ht => (zg _ _ fun e => ht (by rw [e])).trans (h.tm t (by simp))⟩
theorem yJ.add {m : Option Nat} (σ : ze) (B : OB) : yJ m none σ (σ.add B) :=
 ⟨rfl, Nat.le_succ _, fun _ hk => zg _ _ (Nat.ne_of_lt (Nat.lt_of_lt_of_le hk ME)), fun _ _ => rfl⟩
theorem Xc (σ : ze) (d : Option Tmp) (x : AV) : (σ.put d x).nb = σ.nb := by cases d <;> rfl
theorem wk (σ : ze) (d : Option Tmp) (x : AV) : (σ.put d x).bl = σ.bl := by cases d <;> rfl
theorem x6 (σ : ze) (d : Option Tmp) (x : AV) (B : OB) : (σ.put d x).add B = (σ.add B).put d x := by cases d <;> rfl
theorem put_comm {σ : ze} {d d' : Option Tmp} {x y : AV} (h : ∀ t, d = some t → d' ≠ some t) : (σ.put d x).put d' y = (σ.put d' y).put d x := by
 cases d with
 | none => rfl
 | some d => cases d' with
  | none => rfl
  | some d' =>
   simp only [ze.put, ze.mk.injEq, true_and, and_true]
   funext t
   by_cases h1 : t = d'
   ·subst h1
    rw [upd_same, zg _ _ (fun e => h d rfl (by rw [e])), upd_same]
   ·rw [zg _ _ h1]
    by_cases h2 : t = d
    ·subst h2; rw [upd_same, upd_same]
    ·rw [zg _ _ h2, zg _ _ h2, zg _ _ h1]
theorem yJ.ev {m : Option Nat} {σ σ' : ze} {d : Option Tmp} (h : yJ m d σ σ') {x : Operand} (hx : ∀ t, x = .tmp t → d ≠ some t) : σ'.ev x = σ.ev x := by
 cases x with
 | tmp t => simp only [ze.ev, h.n, h.tm t (hx t rfl)]
 | _ => rfl
theorem Nh {σ : ze} {d : Option Tmp} {v : AV} {x : Operand} (hx : ∀ t, x = .tmp t → d ≠ some t) : (σ.put d v).ev x = σ.ev x := ((yJ.refl (m := none) none σ).put d v).ev hx
def Ru : Option Nat → AV → Bool
 | some m, .ns k _ _ => Nat.ble m k
 | _, _ => false
def Xi (P : Program) (G : Cx) (σ : ze) (o : Oper) (f : FuncId) (xs : List AV) (k : ze → Prop) : Prop :=
 match G.own f with
 | some _ => Z3 o
 | none =>
  match Wv P G f (xs.map (lend σ.bl)) o.type with
  | true => xB P G none f (xs.map (lend σ.bl)) o.type fun r => k (σ.put o.dst r)
  | false => Z3 o
def VD (P : Program) (G : Cx) (m : Option Nat) (σ : ze) (o : Oper) (k : ze → Prop) : Prop :=
 match o.op with
 | .alloc elem =>
  match xK P σ elem with
  | some (σ', r) => k (σ'.put o.dst r)
  | none => Z3 o
 | .box t x =>
  match WW σ t (σ.sv x) with
  | some (σ', r) => Yj (σ.ev x).gprop (k (σ'.put o.dst r))
  | none => Z3 o
 | .store _ _ _ => Z3 o
 | .buildSlice t len parts =>
  if ((parts.toList.map fun p => σ.sv p.2).any AV.hasOwn || uz (parts.toList.map (·.2))) = true then Z3 o
  else
   match ZE P σ t len (parts.toList.map (·.1)) (parts.toList.map fun p => σ.sv p.2) with
   | some (σ', r) => Yj (Z4 σ (parts.toList.map (·.2))) (k (σ'.put o.dst r))
   | none => Z3 o
 | .makeSlice t l c =>
  match yG P σ t (σ.sv l) (σ.sv c) with
  | some (ps, σ', r) => Yj ((σ.ev l).gprop ++ (σ.ev c).gprop ++ ps) (k (σ'.put o.dst r))
  | none => Z3 o
 | .call { callee := .value f, args, .. } =>
  match σ.sv f with
  | .fn (.func fid) nf first nc cap =>
   Yj ((σ.ev f).gprop ++ Z4 σ args.toList) <|
    if (Yz nf first (args.toList.map σ.sv) nc cap).any AV.hasOwn then Xi P G σ o fid (Yz nf first (args.toList.map σ.sv) nc cap) k
    else
     match Y9 G σ fid (Yz nf first (args.toList.map σ.sv) nc cap) with
     | some (ps, σ', r) => Yj ps (k (σ'.put o.dst r))
     | none => w5 P G none fid (Yz nf first (args.toList.map σ.sv) nc cap) o.type fun r => k (σ.put o.dst r)
  | _ => Z3 o
 | .call { callee := .builtin .append, args, argTypes } =>
  match args.toList, argTypes.toList with
  | [s, x], [t, t'] =>
   if t = t' then
    if ((σ.sv s).hasOwn && !Ru m (σ.sv s)) = true then Z3 o
    else
     match Yu P σ t (σ.sv s) (σ.sv x) with
     | some (ps, σ', r) => Yj ((σ.ev s).gprop ++ (σ.ev x).gprop ++ ps) (k (σ'.put o.dst r))
     | none => Z3 o
   else Z3 o
  | _, _ => Z3 o
 | op =>
  match yA P σ.bl σ.ev op with
  | some (ps, r) => Yj ps (k (σ.put o.dst r))
  | none => Z3 o
def XI (P : Program) (G : Cx) (m : Option Nat) (ops : List Oper) (o : Oper) (σ : ze) (k : ze → Prop) : Prop :=
 match o.guard with
 | none => VD P G m σ o k
 | some (j, want) =>
  match Ys ops σ j want with
  | some g =>
   match G.conc && !g with
   | true => k (σ.put o.dst (.gd false (Uk P o.type)))
   | false => Sm P G g σ o k
  | none => Z3 o
end Go.Sx

namespace Go.Sx
open Go Go.RowKit
section
variable {P : Program} {G : Cx} {m : Option Nat} {ops : List Oper}
theorem TO {σ σ' : ze} {e : TypeId} {r : AV} (h : xK P σ e = some (σ', r)) : yJ m none σ σ' ∧ ∀ (d : Option Tmp) (x : AV), xK P (σ.put d x) e = some (σ'.put d x, r) := by
 unfold xK at h ⊢
 repeat' split at h
 all_goals first | cases h | skip
 ·rename_i hc
  refine ⟨yJ.add _ _, fun d x => ?_⟩
  simp only [x6, Xc, if_pos hc]
 ·rename_i hn hc
  refine ⟨yJ.add _ _, fun d x => ?_⟩
  simp only [x6, Xc, if_neg hn, if_pos hc]
 ·rename_i hc
  refine ⟨yJ.add _ _, fun d x => ?_⟩
  simp only [x6, Xc, if_pos hc]
theorem qs {σ σ' : ze} {t : TypeId} {v r : AV} (h : WW σ t v = some (σ', r)) : yJ m none σ σ' ∧ ∀ (d : Option Tmp) (x : AV), WW (σ.put d x) t v = some (σ'.put d x, r) := by
 unfold WW at h ⊢
 split at h
 ·rename_i n cs hc
  cases h
  exact ⟨yJ.add _ _, fun d x => by simp only [wk, Xc, x6, hc]⟩
 ·cases h
theorem Tr {σ σ' : ze} {t : TypeId} {n : Nat} {idx : List Nat} {xs : List AV} {r : AV} (h : ZE P σ t n idx xs = some (σ', r)) :
  yJ m none σ σ' ∧ ∀ (d : Option Tmp) (x : AV), ZE P (σ.put d x) t n idx xs = some (σ'.put d x, r) := by
 obtain ⟨rfl, h2⟩ := Yk h
 exact ⟨yJ.refl _ _, fun d x => h2 _⟩
theorem rA {σ σ' : ze} {t : TypeId} {l c r : AV} {ps : List zN} (h : yG P σ t l c = some (ps, σ', r)) :
  yJ m none σ σ' ∧ ∀ (d : Option Tmp) (x : AV), yG P (σ.put d x) t l c = some (ps, σ'.put d x, r) := by
 unfold yG at h ⊢
 repeat' split at h
 all_goals first | cases h | skip
 rename_i hc
 refine ⟨yJ.add _ _, fun d x => ?_⟩
 simp only [x6, Xc, if_pos hc]
theorem qn {G : Cx} {σ σ' : ze} {f : FuncId} {xs : List AV} {r : AV} {ps : List zN} (h : Y9 G σ f xs = some (ps, σ', r)) :
  yJ m none σ σ' ∧ ∀ d x, Y9 G (σ.put d x) f xs = some (ps, σ'.put d x, r) := by
 unfold Y9 at h ⊢
 split at h
 ·rename_i hf
  cases h
  exact ⟨yJ.add _ _, fun d x => by simp only [x6, Xc]⟩
 ·cases h
theorem RI {G : Cx} {σ : ze} {d : Option Tmp} {x : AV} {f : FuncId} {xs : List AV} (h : Y9 G (σ.put d x) f xs = none) : Y9 G σ f xs = none := by
 unfold Y9 at h ⊢
 grind
theorem P8 {m : Option Nat} {x : AV} (h : ¬ ((x.hasOwn && !Ru m x) = true)) : x.hasOwn = false ∨ Ru m x = true := by
 grind
theorem WN {σ σ' : ze} {t : TypeId} {s v r : AV} {ps : List zN} (hs : s.hasOwn = false ∨ Ru m s = true) (h : Yu P σ t s v = some (ps, σ', r)) :
  yJ m none σ σ' ∧ ∀ (d : Option Tmp) (x : AV), Yu P (σ.put d x) t s v = some (ps, σ'.put d x, r) := by
 unfold Yu at h ⊢
 repeat' split at h
 all_goals first | cases h | skip
 ·refine ⟨yJ.add _ _, fun d x => ?_⟩
  simp only [x6, Xc, wk]
  simp_all
 ·refine ⟨⟨rfl, Nat.le_refl _, fun k' _ => rfl, fun _ _ => rfl⟩, fun d x => ?_⟩
  simp only [wk]
  simp_all
 ·refine ⟨yJ.add _ _, fun d x => ?_⟩
  simp only [x6, Xc, wk]
  simp_all
 ·rename_i k n _ _ _ _ _ _ hcc
  have hm : ∀ k', k' < Mh m σ.nb → k' ≠ k := by
   rcases hs with hs | hs
   ·cases hs
   ·cases m with
    | none => cases hs
    | some m' =>
     have h1 : m' ≤ k := Nat.le_of_ble_eq_true hs
     intro k' hk'
     have := M3 (m := m') (n := σ.nb)
     omega
  refine ⟨⟨rfl, Nat.le_succ _, fun k' hk' => ?_, fun _ _ => rfl⟩, fun d x => ?_⟩
  ·show upd (upd σ.bl k .dead) σ.nb _ k' = _
   rw [zg _ _ (Nat.ne_of_lt (Nat.lt_of_lt_of_le hk' ME)), zg _ _ (hm k' hk')]
  ·simp only [Xc, wk]
   cases d <;> simp_all [ze.put]
def old (σ : ze) : Option Tmp → AV
 | some t => σ.tm t
 | none => .junk
theorem Pr (σ : ze) (d : Option Tmp) (x : AV) : (σ.put d x).put d (old σ d) = σ := by
 cases d with
 | none => rfl
 | some d =>
  obtain ⟨n, tm, nb, bl⟩ := σ
  simp only [ze.put, old, ze.mk.injEq, true_and, and_true]
  funext t
  by_cases h : t = d
  ·subst h; rw [upd_same]
  ·rw [zg _ _ h, zg _ _ h]
theorem mb {f : ze → Option (ze × AV)} (hf : ∀ σ σ' r, f σ = some (σ', r) → yJ m none σ σ' ∧ ∀ d x, f (σ.put d x) = some (σ'.put d x, r)) {σ σ1 : ze} {d : Option Tmp} {x r : AV}
  (h : f (σ.put d x) = some (σ1, r)) : ∃ σ', f σ = some (σ', r) ∧ yJ m none σ σ' ∧ σ1 = σ'.put d x := by
 obtain ⟨h1, h2⟩ := hf _ _ _ h
 have h3 := h2 d (old σ d)
 rw [Pr] at h3
 grind
theorem M7 {f : ze → Option (List zN × ze × AV)} (hf : ∀ σ ps σ' r, f σ = some (ps, σ', r) → yJ m none σ σ' ∧ ∀ d x, f (σ.put d x) = some (ps, σ'.put d x, r)) {σ σ1 : ze} {d : Option Tmp} {x r : AV} {ps : List zN}
  (h : f (σ.put d x) = some (ps, σ1, r)) : ∃ σ', f σ = some (ps, σ', r) ∧ yJ m none σ σ' ∧ σ1 = σ'.put d x := by
 obtain ⟨h1, h2⟩ := hf _ _ _ _ h
 have h3 := h2 d (old σ d)
 rw [Pr] at h3
 grind
theorem yX {σ σ' : ze} {d d' : Option Tmp} {x y : AV} {K : ze → Prop} (h : yJ m none σ σ') (hd : ∀ t, d = some t → d' ≠ some t) (hK : K ((σ'.put d x).put d' y)) :
  yJ m d' σ (σ'.put d' y) ∧ K ((σ'.put d' y).put d x) := ⟨h.put d' y, by rw [put_comm hd] at hK; exact hK⟩
theorem OK {σ : ze} {d : Option Tmp} {x : AV} {j : Nat} {want : Bool} (h : ∀ t, d = some t → (ops[j]?).bind (·.dst) ≠ some t) : Ys ops (σ.put d x) j want = Ys ops σ j want := by
 unfold Ys
 cases ho : ops[j]? with
 | none => rfl
 | some o =>
  simp only
  cases hd : o.dst with
  | none => rfl
  | some t =>
   simp only
   cases d with
   | none => rfl
   | some d =>
    have hne : t ≠ d := fun e => h d rfl (by rw [ho, Option.bind_some, hd, e])
    simp only [ze.put, zg _ _ hne]
theorem uI {ex : TypeId → (AV → Prop) → Prop} (hex : ∀ t k k', (∀ r, k r → k' r) → ex t k → ex t k') : ∀ (ts : List TypeId) (k k' : List AV → Prop), (∀ r, k r → k' r) → WK ex ts k → WK ex ts k'
 | [], _, _, h, hk => h _ hk
 | _ :: ts, _, _, h, hk => hex _ _ _ (fun _ hv => uI hex ts _ _ (fun _ hr => h _ hr) hv) hk
theorem sW : ∀ (n : Nat) (t : TypeId) (k k' : AV → Prop), (∀ r, k r → k' r) → uE P n t k → uE P n t k'
 | 0, _, _, _, h, ⟨r, hr⟩ => ⟨r, h _ hr⟩
 | n + 1, t, k, k', h, hk => by
  unfold uE at hk ⊢
  split at hk
  ·grind
  ·grind
  ·grind
  ·grind
  ·exact uI (sW n) _ _ _ (fun r hr => h _ hr) hk
  grind
theorem ZV {ps : List zN} {k k' : Prop} (h : k → k') (hp : Yj ps k) : Yj ps k' := by
 rw [ZG] at hp ⊢
 simp_all
theorem xT {g : Bool} {ps : List zN} {k k' : Prop} (h : k → k') (hp : Rm g ps k) : Rm g ps k' := by
 rw [yj] at hp ⊢
 simp_all
theorem tg {o : Oper} {d : Option Tmp} (h : ∀ t, d = some t → t ∉ o.looksAt ops.toArray) : ∀ x ∈ o.op.operands, ∀ t, x = .tmp t → d ≠ some t := fun x hx t hxt hd =>
 h t hd (List.mem_append_left _ (List.mem_filterMap.2 ⟨x, Array.mem_toList_iff.2 hx, by rw [hxt]⟩))
theorem uH {o : Oper} {d : Option Tmp} {j : Nat} {want : Bool} (h : ∀ t, d = some t → t ∉ o.looksAt ops.toArray) (hg : o.guard = some (j, want)) :
  ∀ t, d = some t → (ops[j]?).bind (·.dst) ≠ some t := fun t hd he =>
 h t hd (List.mem_append_right _ (by rw [hg]; simp only [List.getElem?_toArray]; rw [he]; simp))
theorem Tt {g : Option Bool} {ps : List zN} {k k' : Prop} (h : k → k') (hp : lJ g ps k) : lJ g ps k' := by
 cases g with
 | none => exact ZV h hp
 | some g => exact xT h hp
theorem YQ {P : Program} {G : Cx} {g : Option Bool} {f : FuncId} {xs : List AV} {t : TypeId} {K K' : AV → Prop} (h : ∀ r, K r → K' r) (hk : xB P G g f xs t K) : xB P G g f xs t K' := by
 unfold xB at hk ⊢
 split at hk
 ·exact Tt (h _) hk
 ·exact sW 3 _ _ _ (fun r hr => ⟨hr.1, h r hr.2⟩) hk
theorem wI {P : Program} {G : Cx} {g : Option Bool} {f : FuncId} {xs : List AV} {t : TypeId} {K K' : AV → Prop} (h : ∀ r, K r → K' r) (hk : w5 P G g f xs t K) : w5 P G g f xs t K' := by
 unfold w5 at hk ⊢
 split at hk
 ·grind
 ·exact YQ h hk
theorem YM {σ σ' : ze} {l : List Operand} (h : ∀ x ∈ l, σ'.ev x = σ.ev x) : Z4 σ' l = Z4 σ l := by
 unfold Z4
 rw [List.flatMap_def, List.flatMap_def]
 congr 1
 simp_all
theorem Yn {σ σ' : ze} {x : Operand} (h : σ'.ev x = σ.ev x) : σ'.sv x = σ.sv x := by unfold ze.sv; rw [h]
theorem qL {σ : ze} {o : Oper} {d : Option Tmp} {x : AV} {f : FuncId} {xs : List AV} {K : ze → Prop} (h2 : ∀ t, d = some t → o.dst ≠ some t) (h : Xi P G (σ.put d x) o f xs K) :
  Xi P G σ o f xs fun σ' => yJ m o.dst σ σ' ∧ K (σ'.put d x) := by
 unfold Xi at h ⊢
 simp only [wk, Xc, x6] at h
 split at h
 ·exact h.elim
 ·split at h
  ·exact YQ (fun r hk => yX (yJ.refl none σ) h2 hk) h
  omega
theorem SA {σ : ze} {o : Oper} {f : FuncId} {xs : List AV} {K K' : ze → Prop} (hk : ∀ σ, K σ → K' σ) (h : Xi P G σ o f xs K) : Xi P G σ o f xs K' := by
 unfold Xi at h ⊢
 split at h
 ·exact h.elim
 ·split at h
  ·exact YQ (fun r h => hk _ h) h
  omega
theorem MM {σ : ze} {o : Oper} {d : Option Tmp} {x : AV} {K : ze → Prop} (h1 : ∀ x ∈ o.op.operands, ∀ t, x = .tmp t → d ≠ some t) (h2 : ∀ t, d = some t → o.dst ≠ some t)
  (h : VD P G m (σ.put d x) o K) : VD P G m σ o fun σ' => yJ m o.dst σ σ' ∧ K (σ'.put d x) := by
 have hev : ∀ y ∈ o.op.operands, (σ.put d x).ev y = σ.ev y := fun y hy => Nh (h1 y hy)
 have hsv : ∀ y ∈ o.op.operands, (σ.put d x).sv y = σ.sv y := fun y hy => Yn (hev y hy)
 have gr : ∀ r, K ((σ.put d x).put o.dst r) → yJ m o.dst σ (σ.put o.dst r) ∧ K ((σ.put o.dst r).put d x) := fun r hk => yX (yJ.refl none σ) h2 hk
 unfold VD at h ⊢
 split at h
 ·rename_i e ho
  simp only
  split at h
  ·rename_i σ1 r he
   obtain ⟨σ', g1, g2, rfl⟩ := mb (f := fun σ => xK P σ e) (fun _ _ _ h => TO h) he
   simp only [g1]
   exact yX g2 h2 h
  ·exact h.elim
 ·rename_i t y ho
  have e1 := hev y (by rw [ho]; simp [Op.operands])
  have e2 := hsv y (by rw [ho]; simp [Op.operands])
  simp only [e1, e2] at h
  simp only
  split at h
  ·rename_i σ1 r he
   obtain ⟨σ', g1, g2, rfl⟩ := mb (f := fun s => WW s t (σ.sv y)) (fun _ _ _ h => qs h) he
   simp only [g1]
   exact ZV (yX g2 h2) h
  ·exact h.elim
 ·exact h.elim
 ·rename_i t n parts ho
  have hin : ∀ p ∈ parts.toList, p.2 ∈ o.op.operands := fun p hp => by rw [ho]; simp only [Op.operands, List.mem_toArray, List.mem_map]; exact ⟨p, hp, rfl⟩
  have e1 : (parts.toList.map fun p => (σ.put d x).sv p.2) = parts.toList.map fun p => σ.sv p.2 := List.map_congr_left fun p hp => hsv _ (hin p hp)
  have e2 : Z4 (σ.put d x) (parts.toList.map (·.2)) = Z4 σ (parts.toList.map (·.2)) := YM fun y hy => by
   grind
  simp only [e1, e2] at h
  simp only
  split at h
  ·exact h.elim
  ·rename_i hno
   rw [if_neg hno]
   split at h
   ·rename_i σ1 r he
    obtain ⟨σ', g1, g2, rfl⟩ := mb (f := fun s => ZE P s t n (parts.toList.map fun p : Nat × Operand => p.1) (parts.toList.map fun p : Nat × Operand => σ.sv p.2)) (fun _ _ _ h => Tr h) he
    simp only [g1]
    exact ZV (yX g2 h2) h
   ·exact h.elim
 ·rename_i t l c ho
  have e1 := hev l (by rw [ho]; simp [Op.operands])
  have e2 := hev c (by rw [ho]; simp [Op.operands])
  simp only [e1, e2, Yn e1, Yn e2] at h
  simp only
  split at h
  ·rename_i ps σ1 r he
   obtain ⟨σ', g1, g2, rfl⟩ := M7 (f := fun s => yG P s t (σ.sv l) (σ.sv c)) (fun _ _ _ _ h => rA h) he
   simp only [g1]
   exact ZV (yX g2 h2) h
  ·exact h.elim
 ·rename_i f args ts ho
  have e1 := hev f (by rw [ho]; simp [Op.operands, Call.operands])
  have hin : ∀ y ∈ args.toList, y ∈ o.op.operands := fun y hy => by rw [ho]; simp only [Op.operands, Call.operands, Array.mem_append]; exact .inr (Array.mem_toList_iff.1 hy)
  have e2 : args.toList.map (σ.put d x).sv = args.toList.map σ.sv := List.map_congr_left fun y hy => hsv _ (hin y hy)
  have e3 : Z4 (σ.put d x) args.toList = Z4 σ args.toList := YM fun y hy => hev _ (hin y hy)
  simp only [e1, e2, e3, Yn e1] at h
  simp only
  split at h
  ·refine ZV (fun h => ?_) h
   split at h
   ·rename_i hown
    rw [if_pos hown]
    exact qL h2 h
   ·rename_i hno
    rw [if_neg hno]
    split at h
    ·rename_i ps σ1 r he
     obtain ⟨σ', g1, g2, rfl⟩ := M7 (f := fun u => Y9 G u _ _) (fun _ _ _ _ h => qn h) he
     simp only [g1]
     exact ZV (yX g2 h2) h
    ·rename_i he
     rw [RI he]
     exact wI gr h
  omega
 ·rename_i args ts ho
  have hin : ∀ y ∈ args.toList, y ∈ o.op.operands := fun y hy => by rw [ho]; simp only [Op.operands, Call.operands, Array.mem_append]; exact .inr (Array.mem_toList_iff.1 hy)
  simp only
  split at h
  ·rename_i s y t t' ha ht
   have e1 := hev s (hin s (by rw [ha]; simp))
   have e2 := hev y (hin y (by rw [ha]; simp))
   simp only [e1, e2, Yn e1, Yn e2] at h
   split at h
   ·rename_i htt
    rw [if_pos htt]
    split at h
    ·exact h.elim
    ·rename_i hno
     rw [if_neg hno]
     split at h
     ·rename_i ps σ1 r he
      obtain ⟨σ', g1, g2, rfl⟩ := M7 (f := fun u => Yu P u t (σ.sv s) (σ.sv y)) (fun _ _ _ _ h => WN (P8 hno) h) he
      simp only [g1]
      exact ZV (yX g2 h2) h
     ·rename_i he0
      have e0 : Yu P σ t (σ.sv s) (σ.sv y) = none := by
       cases h0 : Yu P σ t (σ.sv s) (σ.sv y) with
       | none => rfl
       | some q =>
        obtain ⟨ps, σ1, r⟩ := q
        rw [(WN (P8 hno) h0).2 d x] at he0
        cases he0
      exact h.elim
   simp_all
  omega
 ·have e : yA P (σ.put d x).bl (σ.put d x).ev o.op = yA P σ.bl σ.ev o.op := V5 hev fun _ _ _ _ => by rw [wk]
  rw [e] at h
  split at h
  ·rename_i ps r he
   exact ZV (gr r) h
  omega
theorem Lf {g : Bool} {σ : ze} {o : Oper} {d : Option Tmp} {x : AV} {K : ze → Prop} (h1 : ∀ x ∈ o.op.operands, ∀ t, x = .tmp t → d ≠ some t) (h2 : ∀ t, d = some t → o.dst ≠ some t)
  (h : Sm P G g (σ.put d x) o K) : Sm P G g σ o fun σ' => yJ m o.dst σ σ' ∧ K (σ'.put d x) := by
 have hev : ∀ y ∈ o.op.operands, (σ.put d x).ev y = σ.ev y := fun y hy => Nh (h1 y hy)
 have hsv : ∀ y ∈ o.op.operands, (σ.put d x).sv y = σ.sv y := fun y hy => Yn (hev y hy)
 have gr : ∀ r, K ((σ.put d x).put o.dst r) → yJ m o.dst σ (σ.put o.dst r) ∧ K ((σ.put o.dst r).put d x) := fun r hk => yX (yJ.refl none σ) h2 hk
 unfold Sm at h ⊢
 split at h
 ·rename_i f args ts ho
  have e1 := hev f (by rw [ho]; simp [Op.operands, Call.operands])
  have hin : ∀ y ∈ args.toList, y ∈ o.op.operands := fun y hy => by rw [ho]; simp only [Op.operands, Call.operands, Array.mem_append]; exact .inr (Array.mem_toList_iff.1 hy)
  have e2 : args.toList.map (σ.put d x).sv = args.toList.map σ.sv := List.map_congr_left fun y hy => hsv _ (hin y hy)
  have e3 : Z4 (σ.put d x) args.toList = Z4 σ args.toList := YM fun y hy => hev _ (hin y hy)
  simp only [e1, e2, e3, Yn e1, wk] at h
  simp only
  split at h
  ·refine xT (fun h => ?_) h
   split at h
   ·rename_i hno
    rw [if_pos hno]
    split at h
    ·grind
    ·split at h
     ·rename_i hs
      rw [if_pos hs]
      exact YQ (fun r hr => gr _ hr) h
     simp_all
   ·rename_i hno
    rw [if_neg hno]
    exact wI (fun r hr => gr _ hr) h
  omega
 ·rename_i tb lb parts ho
  have hin : ∀ p ∈ parts.toList, p.2 ∈ o.op.operands := fun p hp => by rw [ho]; simp only [Op.operands, List.mem_toArray, List.mem_map]; exact ⟨p, hp, rfl⟩
  have e1 : (parts.toList.map fun p => (σ.put d x).sv p.2) = parts.toList.map fun p => σ.sv p.2 := List.map_congr_left fun p hp => hsv _ (hin p hp)
  have e2 : Z4 (σ.put d x) (parts.toList.map (·.2)) = Z4 σ (parts.toList.map (·.2)) := YM fun y hy => by
   grind
  rw [e1, e2] at h
  split at h
  ·exact h.elim
  ·rename_i hno
   rw [if_neg hno]
   split at h
   ·rename_i σ1 r he
    rw [(Yk he).2 σ]
    exact xT (gr _) h
   ·exact h.elim
 ·have e : yA P (σ.put d x).bl (σ.put d x).ev o.op = yA P σ.bl σ.ev o.op := V5 hev fun _ _ _ _ => by rw [wk]
  rw [e] at h
  split at h
  ·exact xT (gr _) h
  omega
theorem oE {σ : ze} {o : Oper} {d : Option Tmp} {x : AV} {K : ze → Prop} (h1 : ∀ t, d = some t → t ∉ o.looksAt ops.toArray) (h2 : ∀ t, d = some t → o.dst ≠ some t)
  (h : XI P G m ops o (σ.put d x) K) : XI P G m ops o σ fun σ' => yJ m o.dst σ σ' ∧ K (σ'.put d x) := by
 unfold XI at h ⊢
 split at h
 ·exact MM (tg h1) h2 h
 ·rename_i j want hg
  rw [OK (uH h1 hg)] at h
  split at h
  ·rename_i g _
   cases hc : G.conc && !g with
   | true =>
    rw [hc] at h
    exact yX (yJ.refl none σ) h2 h
   | false =>
    rw [hc] at h
    exact Lf (tg h1) h2 h
  omega
theorem oP {σ : ze} {o : Oper} {K K' : ze → Prop} (hk : ∀ σ, K σ → K' σ) (h : VD P G m σ o K) : VD P G m σ o K' := by
 unfold VD at h ⊢
 split at h
 ·grind
 ·split at h
  ·exact ZV (hk _) h
  ·exact h
 ·exact h
 ·split at h
  ·exact h.elim
  ·rename_i hno
   rw [if_neg hno]
   split at h
   ·exact ZV (hk _) h
   ·exact h
 ·split at h
  ·exact ZV (hk _) h
  ·exact h
 ·split at h
  ·refine ZV (fun h => ?_) h
   split at h
   ·rename_i hown
    rw [if_pos hown]
    exact SA hk h
   ·rename_i hno
    rw [if_neg hno]
    split at h
    ·exact ZV (hk _) h
    ·exact wI (fun r hr => hk _ hr) h
  ·exact h
 ·split at h
  ·split at h
   ·rename_i htt
    rw [if_pos htt]
    split at h
    ·exact h.elim
    ·rename_i hno
     rw [if_neg hno]
     split at h
     ·exact ZV (hk _) h
     ·exact h
   simp_all
  ·exact h
 ·split at h
  ·exact ZV (hk _) h
  ·exact h
theorem Vp {g : Bool} {σ : ze} {o : Oper} {K K' : ze → Prop} (hk : ∀ σ, K σ → K' σ) (h : Sm P G g σ o K) : Sm P G g σ o K' := by
 unfold Sm at h ⊢
 split at h
 ·split at h
  ·refine xT (fun h => ?_) h
   split at h
   ·rename_i hno
    rw [if_pos hno]
    split at h
    ·grind
    ·split at h
     ·rename_i hs
      rw [if_pos hs]
      exact YQ (fun r hr => hk _ hr) h
     simp_all
   ·rename_i hno
    rw [if_neg hno]
    exact wI (fun r hr => hk _ hr) h
  ·exact h
 ·split at h
  ·exact h.elim
  ·rename_i hno
   rw [if_neg hno]
   split at h
   ·exact xT (hk _) h
   ·exact h
 ·split at h
  ·exact xT (hk _) h
  ·exact h
theorem vU {σ : ze} {o : Oper} {K K' : ze → Prop} (hk : ∀ σ, K σ → K' σ) (h : XI P G m ops o σ K) : XI P G m ops o σ K' := by
 unfold XI at h ⊢
 split at h
 ·exact oP hk h
 ·split at h
  ·rename_i g _
   cases hc : G.conc && !g with
   | true => simp_all
   | false => rw [hc] at h; exact Vp hk h
  ·exact h
theorem TP {σ : ze} {xs : List AV} (h : ¬ (xs.any AV.hasOwn) = true) : xZ σ xs = some (σ, xs) := by unfold xZ; rw [if_neg h]
theorem Lt {σ : ze} {o : Oper} {K : ze → Prop} (h : VD P G m σ o K) : JZ P G σ o K := by
 unfold VD at h
 unfold JZ
 split at h
 ·grind
 ·grind
 ·exact h.elim
 ·rename_i ho
  simp only [ho]
  split at h
  ·exact h.elim
  ·rename_i hno
   rw [SO hno, TP fun h => hno (by rw [h]; rfl)]
   exact h
 ·grind
 ·rename_i ho
  simp only [ho]
  split at h
  ·rename_i hf
   simp only [hf]
   refine ZV (fun h => ?_) h
   split at h
   ·rename_i hown
    unfold Wp
    rw [if_pos hown]
    unfold Xi at h
    split at h
    ·exact h.elim
    ·rename_i ho0
     rw [ho0]
     simp only
     split at h
     ·simp_all
     ·exact h.elim
   ·rename_i hno
    unfold Wp
    rw [if_neg hno]
    split at h
    ·simp_all
    rename_i he
    rw [he]
    unfold w5 at h
    split at h
    ·exact h.elim
    ·exact h
  ·exact h.elim
 ·rename_i ho
  simp only [ho]
  split at h
  ·rename_i ha ht
   simp only [ha, ht]
   split at h
   ·split at h
    ·exact h.elim
    grind
   ·exact h.elim
  simp_all
 grind
theorem oQ {g : Bool} {σ : ze} {o : Oper} {K : ze → Prop} (h : Sm P G g σ o K) : rG P G g σ o K := by
 unfold rG
 split
 ·rename_i ho
  split
  ·rename_i hf
   split
   ·rename_i hi
    unfold Sm at h
    simp only [ho, hf, yj] at h
    obtain ⟨h1, h2⟩ := h
    unfold w5 at h2
    rw [hi] at h2
    cases g with
    | true => split at h2 <;> exact h2.elim
    | false => split at h2 <;> exact h2
   ·exact h
  ·rename_i hf
   unfold Sm at h
   simp only [ho, hf] at h
   exact h.elim
  ·exact h
 ·exact h
theorem sU {σ : ze} {o : Oper} {K : ze → Prop} (h : XI P G m ops o σ K) : Tk P G ops o σ K := by
 unfold XI at h
 unfold Tk
 cases hg : o.guard with
 | none => rw [hg] at h; exact Lt h
 | some jw =>
  rw [hg] at h
  simp only at h ⊢
  split at h
  ·rename_i g hga
   simp only [hga]
   cases hc : G.conc && !g with
   | true => simp_all
   | false => rw [hc] at h; exact oQ h
  simp_all
end
end Go.Sx
