/- Regions whose operations come in any order: what only computes or reads may be taken first. -/
import Derived.Test.YthbpnknhfokadaaGreatDoorSxK
set_option linter.unusedSimpArgs false
set_option linter.unusedVariables false
namespace Go.Sx
open Go Go.RowKit
def AV.top : AV → Option Nat
 | .np k _ | .ns k _ _ | .ap k _ _ | .ps k _ => some k
 | _ => none
section
variable {P : Program} {bl bl' : Nat → OB}
theorem sV {sh : Option Nat} {x : AV} (h : ∀ k, x.top = some k → bl' k = bl k) : xy bl' sh x = xy bl sh x := by
 cases x <;> simp only [xy] <;> rw [h _ rfl]
theorem rU {x : AV} (h : ∀ k, x.top = some k → bl' k = bl k) : w9 bl' x = w9 bl x := by
 cases x <;> simp only [w9] <;> first | rw [h _ rfl] | (split <;> first | rfl | (rename_i e; cases e) | simp_all)
theorem rY {P : Program} {bl bl' : Nat → OB} {s d : TypeId} {x : AV} (h : ∀ k, x.top = some k → bl' k = bl k) : tD P bl' s d x = tD P bl s d x := by
 have e : tz bl' 1 x = tz bl 1 x := by
  cases x <;> first | rfl | skip
  rename_i k off m
  unfold tz
  simp only [h k rfl]
 unfold tD
 rw [e]
theorem Rn {x : AV} {d : Nat} (h : ∀ k, x.top = some k → bl' k = bl k) : x.shift bl' d = x.shift bl d := by
 cases x <;> simp only [AV.shift] <;> rw [h _ rfl]
theorem V5 {t : TypeId} {x ix : AV} (h : ∀ k, x.top = some k → bl' k = bl k) : Yg P bl' t x ix = Yg P bl t x ix := by
 unfold Yg
 split
 ·split
  ·cases x with
   | ns k off len => have e := h k rfl; cases P.info? _ <;> simp only [e]
   | ps k len => have e := h k rfl; cases P.info? _ <;> simp only [e]
   | _ => cases P.info? _ <;> rfl
  ·cases x with
   | ap k i j => have e := h k rfl; cases P.info? _ <;> cases j <;> simp only [e]
   | np k off => have e := h k rfl; cases P.info? _ <;> simp only [e]
   | _ => cases P.info? _ <;> rfl
  ·rfl
 ·rfl
theorem rf {t : TypeId} {x : AV} {lo hi mx : Option AV} (h : ∀ k, x.top = some k → bl' k = bl k) : Wr P bl' t x lo hi mx = Wr P bl t x lo hi mx := by
 unfold Wr
 rcases P.underlying t with _ | u
 ·rfl
 ·cases u with
  | string =>
   grind
  | slice e =>
   cases x with
   | ns k off len =>
    have e := h k rfl
    grind
   | xl => grind
   | _ => rfl
  | _ => rfl
theorem P7 {t : TypeId} {x : AV} (h : ∀ k, x.top = some k → bl' k = bl k) : TC P bl' t x = TC P bl t x := by
 unfold TC
 rcases P.underlying t with _ | u
 ·rfl
 ·cases x with
  | ns k off len =>
   have e := h k rfl
   grind
  | v x => grind
  | _ => cases u <;> rfl
theorem Oa {b : Builtin} {ts : List TypeId} {xs : List AV} (h : ∀ x ∈ xs, ∀ k, x.top = some k → bl' k = bl k) : QE P bl' b ts xs = QE P bl b ts xs := by
 unfold QE
 split <;> first | rfl | exact P7 (h _ (by simp))
theorem si {x : AV} (h : ∀ k, x.top = some k → bl' k = bl k) : WE bl' x = WE bl x := by
 unfold WE
 cases x with
 | ns k off len => simp only [h k rfl]
 | _ => rfl
theorem qN {op : BinOp} {t : TypeId} {x y : AV} (h1 : ∀ k, x.top = some k → bl' k = bl k) (h2 : ∀ k, y.top = some k → bl' k = bl k) : oV P bl' op t x y = oV P bl op t x y := by
 unfold oV sG
 rw [si h1]
 cases y with
 | np k' o' => simp only [h2 k' rfl]
 | v u =>
  grind
 | _ => rfl
theorem Vk {ob : List (Nat × Obj)} {ev ev' : Operand → AV} {o : Op} (he : ∀ x ∈ o.operands, ev' x = ev x) (hb : ∀ x ∈ o.operands, ∀ k, (ev x).strip.top = some k → bl' k = bl k) :
  yh P ob bl' ev' o = yh P ob bl ev o := by
 have hg : ((YM o).flatMap fun x => (ev' x).gprop) = (YM o).flatMap fun x => (ev x).gprop := by
  rw [List.flatMap_def, List.flatMap_def]
  congr 1
  refine List.map_congr_left fun x hx => ?_
  rw [he x]
  cases o <;> first | exact Array.mem_toList_iff.1 hx | cases hx
 have hr : ZJ P ob bl' ev' (fun x => (ev' x).strip) o = ZJ P ob bl ev (fun x => (ev x).strip) o := by
  have hm : ∀ l : List Operand, (∀ x ∈ l, x ∈ o.operands) → l.map (fun x => (ev' x).strip) = l.map fun x => (ev x).strip := fun l hl => List.map_congr_left fun x hx => by rw [he x (hl x hx)]
  have ho : ∀ l : Option Operand, (∀ x, l = some x → x ∈ o.operands) → l.map (fun x => (ev' x).strip) = l.map fun x => (ev x).strip := fun l hl => by
   cases l with
   | none => rfl
   | some x => simp only [Option.map_some, he x (hl x rfl)]
  cases o with
  | move x => simp only [ZJ, he x (by simp [Op.operands])]
  | assign x => simp only [ZJ, he x (by simp [Op.operands])]
  | pick c a b => simp only [ZJ, he c (by simp [Op.operands]), he a (by simp [Op.operands]), he b (by simp [Op.operands])]
  | load t x =>
   have h := hb x (by simp [Op.operands])
   simp only [ZJ, he x (by simp [Op.operands]), sV h]
  | nilCheck x =>
   have h := hb x (by simp [Op.operands])
   simp only [ZJ, he x (by simp [Op.operands]), rU h]
  | binOp op t x y t' =>
   have h1 := hb x (by simp [Op.operands])
   have h2 := hb y (by simp [Op.operands])
   simp only [ZJ, he x (by simp [Op.operands]), he y (by simp [Op.operands]), qN h1 h2]
  | build t parts =>
   have : (parts.toList.map fun p => (p.1, (ev' p.2).strip)) = parts.toList.map fun p => (p.1, (ev p.2).strip) := List.map_congr_left fun p hp => by
    rw [he p.2 (by simp only [Op.operands, List.mem_toArray, List.mem_map]; exact ⟨p, hp, rfl⟩)]
   simp only [ZJ, this]
  | unOp op t x => simp only [ZJ, he x (by simp [Op.operands])]
  | convert s d x =>
   have h := hb x (by simp [Op.operands])
   simp only [ZJ, he x (by simp [Op.operands]), rY h]
  | makeFunc f a b =>
   simp only [ZJ, hm a.toList fun x hx => by simp only [Op.operands, Array.mem_append]; exact .inl (Array.mem_toList_iff.1 hx),
    hm b.toList fun x hx => by simp only [Op.operands, Array.mem_append]; exact .inr (Array.mem_toList_iff.1 hx)]
  | slice t x a b c =>
   have h := hb x (by simp [Op.operands])
   simp only [ZJ, he x (by simp [Op.operands]), rf h, ho a fun x hx => by simp [Op.operands, hx], ho b fun x hx => by simp [Op.operands, hx],
    ho c fun x hx => by simp [Op.operands, hx]]
  | fieldAddr t x f =>
   have h := hb x (by simp [Op.operands])
   simp only [ZJ, he x (by simp [Op.operands]), Rn h]
  | field t x f => simp only [ZJ, he x (by simp [Op.operands])]
  | indexAddr t x i =>
   have h := hb x (by simp [Op.operands])
   simp only [ZJ, he x (by simp [Op.operands]), he i (by simp [Op.operands]), V5 h]
  | index t x i => simp only [ZJ, he x (by simp [Op.operands]), he i (by simp [Op.operands])]
  | extract x i => simp only [ZJ, he x (by simp [Op.operands])]
  | call c =>
   obtain ⟨cal, args, ts⟩ := c
   cases cal with
   | builtin b =>
    have hin : ∀ x ∈ args.toList, x ∈ (Op.call ⟨.builtin b, args, ts⟩).operands := fun x hx => by simpa [Op.operands, Call.operands] using hx
    simp only [ZJ, hm _ hin]
    rw [Oa]
    intro x hx k hk
    obtain ⟨y, hy, rfl⟩ := List.mem_map.1 hx
    exact hb y (hin y hy) k hk
   | _ => rfl
  | _ => rfl
 unfold yh
 rw [hr, hg]
end
def Ql : Option Nat → Nat → Nat
 | none, n => n
 | some m, n => bif Nat.ble m n then m else n
theorem SN (m n : Nat) : Ql (some m) n = if m ≤ n then m else n := by
 show (bif Nat.ble m n then m else n) = _
 simp
theorem NR {m : Option Nat} {n : Nat} : Ql m n ≤ n := by
 cases m with
 | none => exact Nat.le_refl _
 | some m => rw [SN]; split <;> omega
theorem mg {m n : Nat} : Ql (some m) n ≤ m := by rw [SN]; split <;> omega
theorem mF {m : Option Nat} {n n' : Nat} (h : n ≤ n') : Ql m n ≤ Ql m n' := by
 cases m with
 | none => exact h
 | some m => rw [SN, SN]; split <;> split <;> omega
structure yn (m : Option Nat) (d : Option Tmp) (σ σ' : zK) : Prop where
 n : σ'.n = σ.n
 nb : σ.nb ≤ σ'.nb
 bl : ∀ k, k < Ql m σ.nb → σ'.bl k = σ.bl k
 tm : ∀ t, d ≠ some t → σ'.tm t = σ.tm t
theorem yn.refl {m : Option Nat} (d : Option Tmp) (σ : zK) : yn m d σ σ := ⟨rfl, Nat.le_refl _, fun _ _ => rfl, fun _ _ => rfl⟩
theorem yn.put {m : Option Nat} {σ σ' : zK} (h : yn m none σ σ') (d : Option Tmp) (x : AV) : yn m d σ (σ'.put d x) := by
 cases d with
 | none => exact h
 | some d => exact ⟨h.n, h.nb, h.bl, fun t ht => (zM _ _ fun e => ht (by rw [e])).trans (h.tm t (by simp))⟩
theorem yn.add {m : Option Nat} (σ : zK) (B : OB) : yn m none σ (σ.add B) :=
 ⟨rfl, Nat.le_succ _, fun _ hk => zM _ _ (Nat.ne_of_lt (Nat.lt_of_lt_of_le hk NR)), fun _ _ => rfl⟩
theorem Xn (σ : zK) (d : Option Tmp) (x : AV) : (σ.put d x).nb = σ.nb := by cases d <;> rfl
theorem wW (σ : zK) (d : Option Tmp) (x : AV) : (σ.put d x).bl = σ.bl := by cases d <;> rfl
theorem xE (σ : zK) (d : Option Tmp) (x : AV) (B : OB) : (σ.put d x).add B = (σ.add B).put d x := by cases d <;> rfl
theorem put_comm {σ : zK} {d d' : Option Tmp} {x y : AV} (h : ∀ t, d = some t → d' ≠ some t) : (σ.put d x).put d' y = (σ.put d' y).put d x := by
 cases d with
 | none => rfl
 | some d => cases d' with
  | none => rfl
  | some d' =>
   simp only [zK.put, zK.mk.injEq, true_and, and_true]
   funext t
   by_cases h1 : t = d'
   ·subst h1
    rw [upd_same, zM _ _ (fun e => h d rfl (by rw [e])), upd_same]
   ·rw [zM _ _ h1]
    by_cases h2 : t = d
    ·subst h2; rw [upd_same, upd_same]
    ·rw [zM _ _ h2, zM _ _ h2, zM _ _ h1]
theorem yn.ev {m : Option Nat} {σ σ' : zK} {d : Option Tmp} (h : yn m d σ σ') {x : Operand} (hx : ∀ t, x = .tmp t → d ≠ some t) : σ'.ev x = σ.ev x := by
 cases x with
 | tmp t => simp only [zK.ev, h.n, h.tm t (hx t rfl)]
 | _ => rfl
theorem Nn {σ : zK} {d : Option Tmp} {v : AV} {x : Operand} (hx : ∀ t, x = .tmp t → d ≠ some t) : (σ.put d v).ev x = σ.ev x := ((yn.refl (m := none) none σ).put d v).ev hx
def Ss : Option Nat → AV → Bool
 | some m, .ns k _ _ => Nat.ble m k
 | _, _ => false
def XQ (P : Program) (G : Cx) (σ : zK) (o : Oper) (f : FuncId) (xs : List AV) (k : zK → Prop) : Prop :=
 match G.own f with
 | some _ => Zd o
 | none =>
  match WZ P G f (xs.map (lend σ.bl)) o.type with
  | true => xH P G none f (xs.map (lend σ.bl)) o.type fun r => k (σ.put o.dst r)
  | false => Zd o
def VX (P : Program) (G : Cx) (m : Option Nat) (σ : zK) (o : Oper) (k : zK → Prop) : Prop :=
 match o.op with
 | .alloc elem =>
  match xP P σ elem with
  | some (σ', r) => k (σ'.put o.dst r)
  | none => Zd o
 | .box t x =>
  match wF σ t (σ.sv x) with
  | some (σ', r) => YN (σ.ev x).gprop (k (σ'.put o.dst r))
  | none => Zd o
 | .store _ _ _ => Zd o
 | .buildSlice t len parts =>
  if ((parts.toList.map fun p => σ.sv p.2).any AV.hasOwn || VY (parts.toList.map (·.2))) = true then Zd o
  else
   match ZK P σ t len (parts.toList.map (·.1)) (parts.toList.map fun p => σ.sv p.2) with
   | some (σ', r) => YN (ZC σ (parts.toList.map (·.2))) (k (σ'.put o.dst r))
   | none => Zd o
 | .makeSlice t l c =>
  match yp P σ t (σ.sv l) (σ.sv c) with
  | some (ps, σ', r) => YN ((σ.ev l).gprop ++ (σ.ev c).gprop ++ ps) (k (σ'.put o.dst r))
  | none => Zd o
 | .call { callee := .value f, args, .. } =>
  match σ.sv f with
  | .fn (.func fid) nf first nc cap =>
   YN ((σ.ev f).gprop ++ ZC σ args.toList) <|
    if (yB nf first (args.toList.map σ.sv) nc cap).any AV.hasOwn then XQ P G σ o fid (yB nf first (args.toList.map σ.sv) nc cap) k
    else
     match YB G σ fid (yB nf first (args.toList.map σ.sv) nc cap) with
     | some (ps, σ', r) => YN ps (k (σ'.put o.dst r))
     | none => wP P G none fid (yB nf first (args.toList.map σ.sv) nc cap) o.type fun r => k (σ.put o.dst r)
  | _ => Zd o
 | .call { callee := .builtin .append, args, argTypes } =>
  match args.toList, argTypes.toList with
  | [s, x], [t, t'] =>
   if t = t' then
    if ((σ.sv s).hasOwn && !Ss m (σ.sv s)) = true then Zd o
    else
     match YZ P σ t (σ.sv s) (σ.sv x) with
     | some (ps, σ', r) => YN ((σ.ev s).gprop ++ (σ.ev x).gprop ++ ps) (k (σ'.put o.dst r))
     | none => Zd o
   else Zd o
  | _, _ => Zd o
 | op =>
  match yh P G.objs σ.bl σ.ev op with
  | some (ps, r) => YN ps (k (σ.put o.dst r))
  | none => Zd o
def Xq (P : Program) (G : Cx) (m : Option Nat) (ops : List Oper) (o : Oper) (σ : zK) (k : zK → Prop) : Prop :=
 match o.guard with
 | none => VX P G m σ o k
 | some (j, want) =>
  match Yx ops σ j want with
  | some g =>
   match G.conc && !g with
   | true => k (σ.put o.dst (.gd false (Uv P o.type)))
   | false => sw P G g σ o k
  | none => Zd o
end Go.Sx

namespace Go.Sx
open Go Go.RowKit
section
variable {P : Program} {G : Cx} {m : Option Nat} {ops : List Oper}
theorem tP {σ σ' : zK} {e : TypeId} {r : AV} (h : xP P σ e = some (σ', r)) : yn m none σ σ' ∧ ∀ (d : Option Tmp) (x : AV), xP P (σ.put d x) e = some (σ'.put d x, r) := by
 unfold xP at h ⊢
 repeat' split at h
 all_goals first | cases h | skip
 ·rename_i hc
  refine ⟨yn.add _ _, fun d x => ?_⟩
  simp only [xE, Xn, if_pos hc]
 ·rename_i hn hc
  refine ⟨yn.add _ _, fun d x => ?_⟩
  simp only [xE, Xn, if_neg hn, if_pos hc]
 ·rename_i hc
  refine ⟨yn.add _ _, fun d x => ?_⟩
  simp only [xE, Xn, if_pos hc]
theorem rR {σ σ' : zK} {t : TypeId} {v r : AV} (h : wF σ t v = some (σ', r)) : yn m none σ σ' ∧ ∀ (d : Option Tmp) (x : AV), wF (σ.put d x) t v = some (σ'.put d x, r) := by
 unfold wF at h ⊢
 split at h
 ·rename_i n cs hc
  cases h
  exact ⟨yn.add _ _, fun d x => by simp only [wW, Xn, xE, hc]⟩
 ·cases h
theorem tN {σ σ' : zK} {t : TypeId} {n : Nat} {idx : List Nat} {xs : List AV} {r : AV} (h : ZK P σ t n idx xs = some (σ', r)) :
  yn m none σ σ' ∧ ∀ (d : Option Tmp) (x : AV), ZK P (σ.put d x) t n idx xs = some (σ'.put d x, r) := by
 obtain ⟨rfl, h2⟩ := YQ h
 exact ⟨yn.refl _ _, fun d x => h2 _⟩
theorem T8 {σ σ' : zK} {t : TypeId} {l c r : AV} {ps : List zN} (h : yp P σ t l c = some (ps, σ', r)) :
  yn m none σ σ' ∧ ∀ (d : Option Tmp) (x : AV), yp P (σ.put d x) t l c = some (ps, σ'.put d x, r) := by
 unfold yp at h ⊢
 repeat' split at h
 all_goals first | cases h | skip
 rename_i hc
 refine ⟨yn.add _ _, fun d x => ?_⟩
 simp only [xE, Xn, if_pos hc]
theorem RR {G : Cx} {σ σ' : zK} {f : FuncId} {xs : List AV} {r : AV} {ps : List zN} (h : YB G σ f xs = some (ps, σ', r)) :
  yn m none σ σ' ∧ ∀ d x, YB G (σ.put d x) f xs = some (ps, σ'.put d x, r) := by
 unfold YB at h ⊢
 split at h
 ·rename_i hf
  cases h
  exact ⟨yn.add _ _, fun d x => by simp only [xE, Xn]⟩
 ·cases h
theorem rh {G : Cx} {σ : zK} {d : Option Tmp} {x : AV} {f : FuncId} {xs : List AV} (h : YB G (σ.put d x) f xs = none) : YB G σ f xs = none := by
 unfold YB at h ⊢
 grind
theorem PR {m : Option Nat} {x : AV} (h : ¬ ((x.hasOwn && !Ss m x) = true)) : x.hasOwn = false ∨ Ss m x = true := by
 grind
theorem wc {σ σ' : zK} {t : TypeId} {s v r : AV} {ps : List zN} (hs : s.hasOwn = false ∨ Ss m s = true) (h : YZ P σ t s v = some (ps, σ', r)) :
  yn m none σ σ' ∧ ∀ (d : Option Tmp) (x : AV), YZ P (σ.put d x) t s v = some (ps, σ'.put d x, r) := by
 unfold YZ at h ⊢
 repeat' split at h
 all_goals first | cases h | skip
 ·refine ⟨yn.add _ _, fun d x => ?_⟩
  simp only [xE, Xn, wW]
  simp_all
 ·refine ⟨⟨rfl, Nat.le_refl _, fun k' _ => rfl, fun _ _ => rfl⟩, fun d x => ?_⟩
  simp only [wW]
  simp_all
 ·refine ⟨yn.add _ _, fun d x => ?_⟩
  simp only [xE, Xn, wW]
  simp_all
 ·rename_i k n _ _ _ _ _ _ hcc
  have hm : ∀ k', k' < Ql m σ.nb → k' ≠ k := by
   rcases hs with hs | hs
   ·cases hs
   ·cases m with
    | none => cases hs
    | some m' =>
     have h1 : m' ≤ k := Nat.le_of_ble_eq_true hs
     intro k' hk'
     have := mg (m := m') (n := σ.nb)
     omega
  refine ⟨⟨rfl, Nat.le_succ _, fun k' hk' => ?_, fun _ _ => rfl⟩, fun d x => ?_⟩
  ·show upd (upd σ.bl k .dead) σ.nb _ k' = _
   rw [zM _ _ (Nat.ne_of_lt (Nat.lt_of_lt_of_le hk' NR)), zM _ _ (hm k' hk')]
  ·simp only [Xn, wW]
   cases d <;> simp_all [zK.put]
def old (σ : zK) : Option Tmp → AV
 | some t => σ.tm t
 | none => .junk
theorem PO (σ : zK) (d : Option Tmp) (x : AV) : (σ.put d x).put d (old σ d) = σ := by
 cases d with
 | none => rfl
 | some d =>
  obtain ⟨n, tm, nb, bl⟩ := σ
  simp only [zK.put, old, zK.mk.injEq, true_and, and_true]
  funext t
  by_cases h : t = d
  ·subst h; rw [upd_same]
  ·rw [zM _ _ h, zM _ _ h]
theorem Ny {f : zK → Option (zK × AV)} (hf : ∀ σ σ' r, f σ = some (σ', r) → yn m none σ σ' ∧ ∀ d x, f (σ.put d x) = some (σ'.put d x, r)) {σ σ1 : zK} {d : Option Tmp} {x r : AV}
  (h : f (σ.put d x) = some (σ1, r)) : ∃ σ', f σ = some (σ', r) ∧ yn m none σ σ' ∧ σ1 = σ'.put d x := by
 obtain ⟨h1, h2⟩ := hf _ _ _ h
 have h3 := h2 d (old σ d)
 rw [PO] at h3
 grind
theorem Nm {f : zK → Option (List zN × zK × AV)} (hf : ∀ σ ps σ' r, f σ = some (ps, σ', r) → yn m none σ σ' ∧ ∀ d x, f (σ.put d x) = some (ps, σ'.put d x, r)) {σ σ1 : zK} {d : Option Tmp} {x r : AV} {ps : List zN}
  (h : f (σ.put d x) = some (ps, σ1, r)) : ∃ σ', f σ = some (ps, σ', r) ∧ yn m none σ σ' ∧ σ1 = σ'.put d x := by
 obtain ⟨h1, h2⟩ := hf _ _ _ _ h
 have h3 := h2 d (old σ d)
 rw [PO] at h3
 grind
theorem Z3 {σ σ' : zK} {d d' : Option Tmp} {x y : AV} {K : zK → Prop} (h : yn m none σ σ') (hd : ∀ t, d = some t → d' ≠ some t) (hK : K ((σ'.put d x).put d' y)) :
  yn m d' σ (σ'.put d' y) ∧ K ((σ'.put d' y).put d x) := ⟨h.put d' y, by rw [put_comm hd] at hK; exact hK⟩
theorem Pm {σ : zK} {d : Option Tmp} {x : AV} {j : Nat} {want : Bool} (h : ∀ t, d = some t → (ops[j]?).bind (·.dst) ≠ some t) : Yx ops (σ.put d x) j want = Yx ops σ j want := by
 unfold Yx
 cases ho : ops[j]? with
 | none => rfl
 | some o =>
  simp only
  cases hd : o.dst with
  | none => rfl
  | some t =>
   simp only
   cases d with
   | none => rfl
   | some d =>
    have hne : t ≠ d := fun e => h d rfl (by rw [ho, Option.bind_some, hd, e])
    simp only [zK.put, zM _ _ hne]
theorem VF {ex : TypeId → (AV → Prop) → Prop} (hex : ∀ t k k', (∀ r, k r → k' r) → ex t k → ex t k') : ∀ (ts : List TypeId) (k k' : List AV → Prop), (∀ r, k r → k' r) → Wz ex ts k → Wz ex ts k'
 | [], _, _, h, hk => h _ hk
 | _ :: ts, _, _, h, hk => hex _ _ _ (fun _ hv => VF hex ts _ _ (fun _ hr => h _ hr) hv) hk
theorem Tg : ∀ (n : Nat) (t : TypeId) (k k' : AV → Prop), (∀ r, k r → k' r) → uy P n t k → uy P n t k'
 | 0, _, _, _, h, ⟨r, hr⟩ => ⟨r, h _ hr⟩
 | n + 1, t, k, k', h, hk => by
  unfold uy at hk ⊢
  split at hk
  ·grind
  ·grind
  ·grind
  ·grind
  ·exact VF (Tg n) _ _ _ (fun r hr => h _ hr) hk
  grind
theorem zb {ps : List zN} {k k' : Prop} (h : k → k') (hp : YN ps k) : YN ps k' := by
 rw [ZN] at hp ⊢
 simp_all
theorem Y2 {g : Bool} {ps : List zN} {k k' : Prop} (h : k → k') (hp : ru g ps k) : ru g ps k' := by
 rw [yN] at hp ⊢
 simp_all
theorem U1 {o : Oper} {d : Option Tmp} (h : ∀ t, d = some t → t ∉ o.looksAt ops.toArray) : ∀ x ∈ o.op.operands, ∀ t, x = .tmp t → d ≠ some t := fun x hx t hxt hd =>
 h t hd (List.mem_append_left _ (List.mem_filterMap.2 ⟨x, Array.mem_toList_iff.2 hx, by rw [hxt]⟩))
theorem Vb {o : Oper} {d : Option Tmp} {j : Nat} {want : Bool} (h : ∀ t, d = some t → t ∉ o.looksAt ops.toArray) (hg : o.guard = some (j, want)) :
  ∀ t, d = some t → (ops[j]?).bind (·.dst) ≠ some t := fun t hd he =>
 h t hd (List.mem_append_right _ (by rw [hg]; simp only [List.getElem?_toArray]; rw [he]; simp))
theorem uK {g : Option Bool} {ps : List zN} {k k' : Prop} (h : k → k') (hp : mV g ps k) : mV g ps k' := by
 cases g with
 | none => exact zb h hp
 | some g => exact Y2 h hp
theorem YU {P : Program} {G : Cx} {g : Option Bool} {f : FuncId} {xs : List AV} {t : TypeId} {K K' : AV → Prop} (h : ∀ r, K r → K' r) (hk : xH P G g f xs t K) : xH P G g f xs t K' := by
 unfold xH at hk ⊢
 split at hk
 ·exact uK (h _) hk
 ·exact Tg 3 _ _ _ (fun r hr => ⟨hr.1, h r hr.2⟩) hk
theorem wZ {P : Program} {G : Cx} {g : Option Bool} {f : FuncId} {xs : List AV} {t : TypeId} {K K' : AV → Prop} (h : ∀ r, K r → K' r) (hk : wP P G g f xs t K) : wP P G g f xs t K' := by
 unfold wP at hk ⊢
 split at hk
 ·grind
 ·exact YU h hk
theorem YR {σ σ' : zK} {l : List Operand} (h : ∀ x ∈ l, σ'.ev x = σ.ev x) : ZC σ' l = ZC σ l := by
 unfold ZC
 rw [List.flatMap_def, List.flatMap_def]
 congr 1
 simp_all
theorem YT {σ σ' : zK} {x : Operand} (h : σ'.ev x = σ.ev x) : σ'.sv x = σ.sv x := by unfold zK.sv; rw [h]
theorem Ro {σ : zK} {o : Oper} {d : Option Tmp} {x : AV} {f : FuncId} {xs : List AV} {K : zK → Prop} (h2 : ∀ t, d = some t → o.dst ≠ some t) (h : XQ P G (σ.put d x) o f xs K) :
  XQ P G σ o f xs fun σ' => yn m o.dst σ σ' ∧ K (σ'.put d x) := by
 unfold XQ at h ⊢
 simp only [wW, Xn, xE] at h
 split at h
 ·exact h.elim
 ·split at h
  ·exact YU (fun r hk => Z3 (yn.refl none σ) h2 hk) h
  omega
theorem sK {σ : zK} {o : Oper} {f : FuncId} {xs : List AV} {K K' : zK → Prop} (hk : ∀ σ, K σ → K' σ) (h : XQ P G σ o f xs K) : XQ P G σ o f xs K' := by
 unfold XQ at h ⊢
 split at h
 ·exact h.elim
 ·split at h
  ·exact YU (fun r h => hk _ h) h
  omega
theorem MU {σ : zK} {o : Oper} {d : Option Tmp} {x : AV} {K : zK → Prop} (h1 : ∀ x ∈ o.op.operands, ∀ t, x = .tmp t → d ≠ some t) (h2 : ∀ t, d = some t → o.dst ≠ some t)
  (h : VX P G m (σ.put d x) o K) : VX P G m σ o fun σ' => yn m o.dst σ σ' ∧ K (σ'.put d x) := by
 have hev : ∀ y ∈ o.op.operands, (σ.put d x).ev y = σ.ev y := fun y hy => Nn (h1 y hy)
 have hsv : ∀ y ∈ o.op.operands, (σ.put d x).sv y = σ.sv y := fun y hy => YT (hev y hy)
 have gr : ∀ r, K ((σ.put d x).put o.dst r) → yn m o.dst σ (σ.put o.dst r) ∧ K ((σ.put o.dst r).put d x) := fun r hk => Z3 (yn.refl none σ) h2 hk
 unfold VX at h ⊢
 split at h
 ·rename_i e ho
  simp only
  split at h
  ·rename_i σ1 r he
   obtain ⟨σ', g1, g2, rfl⟩ := Ny (f := fun σ => xP P σ e) (fun _ _ _ h => tP h) he
   simp only [g1]
   exact Z3 g2 h2 h
  ·exact h.elim
 ·rename_i t y ho
  have e1 := hev y (by rw [ho]; simp [Op.operands])
  have e2 := hsv y (by rw [ho]; simp [Op.operands])
  simp only [e1, e2] at h
  simp only
  split at h
  ·rename_i σ1 r he
   obtain ⟨σ', g1, g2, rfl⟩ := Ny (f := fun s => wF s t (σ.sv y)) (fun _ _ _ h => rR h) he
   simp only [g1]
   exact zb (Z3 g2 h2) h
  ·exact h.elim
 ·exact h.elim
 ·rename_i t n parts ho
  have hin : ∀ p ∈ parts.toList, p.2 ∈ o.op.operands := fun p hp => by rw [ho]; simp only [Op.operands, List.mem_toArray, List.mem_map]; exact ⟨p, hp, rfl⟩
  have e1 : (parts.toList.map fun p => (σ.put d x).sv p.2) = parts.toList.map fun p => σ.sv p.2 := List.map_congr_left fun p hp => hsv _ (hin p hp)
  have e2 : ZC (σ.put d x) (parts.toList.map (·.2)) = ZC σ (parts.toList.map (·.2)) := YR fun y hy => by
   obtain ⟨p, hp, rfl⟩ := List.mem_map.1 hy
   exact hev _ (hin p hp)
  simp only [e1, e2] at h
  simp only
  split at h
  ·exact h.elim
  ·rename_i hno
   rw [if_neg hno]
   split at h
   ·rename_i σ1 r he
    obtain ⟨σ', g1, g2, rfl⟩ := Ny (f := fun s => ZK P s t n (parts.toList.map fun p : Nat × Operand => p.1) (parts.toList.map fun p : Nat × Operand => σ.sv p.2)) (fun _ _ _ h => tN h) he
    simp only [g1]
    exact zb (Z3 g2 h2) h
   ·exact h.elim
 ·rename_i t l c ho
  have e1 := hev l (by rw [ho]; simp [Op.operands])
  have e2 := hev c (by rw [ho]; simp [Op.operands])
  simp only [e1, e2, YT e1, YT e2] at h
  simp only
  split at h
  ·rename_i ps σ1 r he
   obtain ⟨σ', g1, g2, rfl⟩ := Nm (f := fun s => yp P s t (σ.sv l) (σ.sv c)) (fun _ _ _ _ h => T8 h) he
   simp only [g1]
   exact zb (Z3 g2 h2) h
  ·exact h.elim
 ·rename_i f args ts ho
  have e1 := hev f (by rw [ho]; simp [Op.operands, Call.operands])
  have hin : ∀ y ∈ args.toList, y ∈ o.op.operands := fun y hy => by rw [ho]; simp only [Op.operands, Call.operands, Array.mem_append]; exact .inr (Array.mem_toList_iff.1 hy)
  have e2 : args.toList.map (σ.put d x).sv = args.toList.map σ.sv := List.map_congr_left fun y hy => hsv _ (hin y hy)
  have e3 : ZC (σ.put d x) args.toList = ZC σ args.toList := YR fun y hy => hev _ (hin y hy)
  simp only [e1, e2, e3, YT e1] at h
  simp only
  split at h
  ·refine zb (fun h => ?_) h
   split at h
   ·rename_i hown
    rw [if_pos hown]
    exact Ro h2 h
   ·rename_i hno
    rw [if_neg hno]
    split at h
    ·rename_i ps σ1 r he
     obtain ⟨σ', g1, g2, rfl⟩ := Nm (f := fun u => YB G u _ _) (fun _ _ _ _ h => RR h) he
     simp only [g1]
     exact zb (Z3 g2 h2) h
    ·rename_i he
     rw [rh he]
     exact wZ gr h
  ·exact h.elim
 ·rename_i args ts ho
  have hin : ∀ y ∈ args.toList, y ∈ o.op.operands := fun y hy => by rw [ho]; simp only [Op.operands, Call.operands, Array.mem_append]; exact .inr (Array.mem_toList_iff.1 hy)
  simp only
  split at h
  ·rename_i s y t t' ha ht
   have e1 := hev s (hin s (by rw [ha]; simp))
   have e2 := hev y (hin y (by rw [ha]; simp))
   simp only [e1, e2, YT e1, YT e2] at h
   split at h
   ·rename_i htt
    rw [if_pos htt]
    split at h
    ·exact h.elim
    ·rename_i hno
     rw [if_neg hno]
     split at h
     ·rename_i ps σ1 r he
      obtain ⟨σ', g1, g2, rfl⟩ := Nm (f := fun u => YZ P u t (σ.sv s) (σ.sv y)) (fun _ _ _ _ h => wc (PR hno) h) he
      simp only [g1]
      exact zb (Z3 g2 h2) h
     ·rename_i he0
      have e0 : YZ P σ t (σ.sv s) (σ.sv y) = none := by
       cases h0 : YZ P σ t (σ.sv s) (σ.sv y) with
       | none => rfl
       | some q =>
        obtain ⟨ps, σ1, r⟩ := q
        rw [(wc (PR hno) h0).2 d x] at he0
        cases he0
      exact h.elim
   ·exact h.elim
  ·exact h.elim
 ·have e : yh P G.objs (σ.put d x).bl (σ.put d x).ev o.op = yh P G.objs σ.bl σ.ev o.op := Vk hev fun _ _ _ _ => by rw [wW]
  rw [e] at h
  split at h
  ·rename_i ps r he
   exact zb (gr r) h
  ·exact h.elim
theorem lj {g : Bool} {σ : zK} {o : Oper} {d : Option Tmp} {x : AV} {K : zK → Prop} (h1 : ∀ x ∈ o.op.operands, ∀ t, x = .tmp t → d ≠ some t) (h2 : ∀ t, d = some t → o.dst ≠ some t)
  (h : sw P G g (σ.put d x) o K) : sw P G g σ o fun σ' => yn m o.dst σ σ' ∧ K (σ'.put d x) := by
 have hev : ∀ y ∈ o.op.operands, (σ.put d x).ev y = σ.ev y := fun y hy => Nn (h1 y hy)
 have hsv : ∀ y ∈ o.op.operands, (σ.put d x).sv y = σ.sv y := fun y hy => YT (hev y hy)
 have gr : ∀ r, K ((σ.put d x).put o.dst r) → yn m o.dst σ (σ.put o.dst r) ∧ K ((σ.put o.dst r).put d x) := fun r hk => Z3 (yn.refl none σ) h2 hk
 unfold sw at h ⊢
 split at h
 ·rename_i f args ts ho
  have e1 := hev f (by rw [ho]; simp [Op.operands, Call.operands])
  have hin : ∀ y ∈ args.toList, y ∈ o.op.operands := fun y hy => by rw [ho]; simp only [Op.operands, Call.operands, Array.mem_append]; exact .inr (Array.mem_toList_iff.1 hy)
  have e2 : args.toList.map (σ.put d x).sv = args.toList.map σ.sv := List.map_congr_left fun y hy => hsv _ (hin y hy)
  have e3 : ZC (σ.put d x) args.toList = ZC σ args.toList := YR fun y hy => hev _ (hin y hy)
  simp only [e1, e2, e3, YT e1, wW] at h
  simp only
  split at h
  ·refine Y2 (fun h => ?_) h
   split at h
   ·rename_i hno
    rw [if_pos hno]
    split at h
    ·split at h
     ·exact gr _ h
     ·exact h.elim
    ·split at h
     ·rename_i hs
      rw [if_pos hs]
      exact YU (fun r hr => gr _ hr) h
     ·exact h.elim
   ·rename_i hno
    rw [if_neg hno]
    exact wZ (fun r hr => gr _ hr) h
  ·exact h.elim
 ·rename_i tb lb parts ho
  have hin : ∀ p ∈ parts.toList, p.2 ∈ o.op.operands := fun p hp => by rw [ho]; simp only [Op.operands, List.mem_toArray, List.mem_map]; exact ⟨p, hp, rfl⟩
  have e1 : (parts.toList.map fun p => (σ.put d x).sv p.2) = parts.toList.map fun p => σ.sv p.2 := List.map_congr_left fun p hp => hsv _ (hin p hp)
  have e2 : ZC (σ.put d x) (parts.toList.map (·.2)) = ZC σ (parts.toList.map (·.2)) := YR fun y hy => by
   obtain ⟨p, hp, rfl⟩ := List.mem_map.1 hy
   exact hev _ (hin p hp)
  rw [e1, e2] at h
  split at h
  ·exact h.elim
  ·rename_i hno
   rw [if_neg hno]
   split at h
   ·rename_i σ1 r he
    rw [(YQ he).2 σ]
    exact Y2 (gr _) h
   ·exact h.elim
 ·have e : yh P G.objs (σ.put d x).bl (σ.put d x).ev o.op = yh P G.objs σ.bl σ.ev o.op := Vk hev fun _ _ _ _ => by rw [wW]
  rw [e] at h
  split at h
  ·exact Y2 (gr _) h
  ·exact h.elim
theorem PE {σ : zK} {o : Oper} {d : Option Tmp} {x : AV} {K : zK → Prop} (h1 : ∀ t, d = some t → t ∉ o.looksAt ops.toArray) (h2 : ∀ t, d = some t → o.dst ≠ some t)
  (h : Xq P G m ops o (σ.put d x) K) : Xq P G m ops o σ fun σ' => yn m o.dst σ σ' ∧ K (σ'.put d x) := by
 unfold Xq at h ⊢
 split at h
 ·exact MU (U1 h1) h2 h
 ·rename_i j want hg
  rw [Pm (Vb h1 hg)] at h
  split at h
  ·rename_i g _
   cases hc : G.conc && !g with
   | true =>
    rw [hc] at h
    exact Z3 (yn.refl none σ) h2 h
   | false =>
    rw [hc] at h
    exact lj (U1 h1) h2 h
  omega
theorem OX {σ : zK} {o : Oper} {K K' : zK → Prop} (hk : ∀ σ, K σ → K' σ) (h : VX P G m σ o K) : VX P G m σ o K' := by
 unfold VX at h ⊢
 split at h
 ·grind
 ·split at h
  ·exact zb (hk _) h
  ·exact h
 ·exact h
 ·split at h
  ·exact h.elim
  ·rename_i hno
   rw [if_neg hno]
   split at h
   ·exact zb (hk _) h
   ·exact h
 ·split at h
  ·exact zb (hk _) h
  ·exact h
 ·split at h
  ·refine zb (fun h => ?_) h
   split at h
   ·rename_i hown
    rw [if_pos hown]
    exact sK hk h
   ·rename_i hno
    rw [if_neg hno]
    split at h
    ·exact zb (hk _) h
    ·exact wZ (fun r hr => hk _ hr) h
  ·exact h
 ·split at h
  ·split at h
   ·rename_i htt
    rw [if_pos htt]
    split at h
    ·exact h.elim
    ·rename_i hno
     rw [if_neg hno]
     split at h
     ·exact zb (hk _) h
     ·exact h
   simp_all
  ·exact h
 ·split at h
  ·exact zb (hk _) h
  ·exact h
theorem vH {g : Bool} {σ : zK} {o : Oper} {K K' : zK → Prop} (hk : ∀ σ, K σ → K' σ) (h : sw P G g σ o K) : sw P G g σ o K' := by
 unfold sw at h ⊢
 split at h
 ·split at h
  ·refine Y2 (fun h => ?_) h
   split at h
   ·rename_i hno
    rw [if_pos hno]
    split at h
    ·grind
    ·split at h
     ·rename_i hs
      rw [if_pos hs]
      exact YU (fun r hr => hk _ hr) h
     simp_all
   ·rename_i hno
    rw [if_neg hno]
    exact wZ (fun r hr => hk _ hr) h
  ·exact h
 ·split at h
  ·exact h.elim
  ·rename_i hno
   rw [if_neg hno]
   split at h
   ·exact Y2 (hk _) h
   ·exact h
 ·split at h
  ·exact Y2 (hk _) h
  ·exact h
theorem Wa {σ : zK} {o : Oper} {K K' : zK → Prop} (hk : ∀ σ, K σ → K' σ) (h : Xq P G m ops o σ K) : Xq P G m ops o σ K' := by
 unfold Xq at h ⊢
 split at h
 ·exact OX hk h
 ·split at h
  ·rename_i g _
   cases hc : G.conc && !g with
   | true => simp_all
   | false => rw [hc] at h; exact vH hk h
  ·exact h
theorem tI {σ : zK} {xs : List AV} (h : ¬ (xs.any AV.hasOwn) = true) : YA σ xs = some (σ, xs) := by unfold YA; rw [if_neg h]
theorem nW {σ : zK} {o : Oper} {K : zK → Prop} (h : VX P G m σ o K) : Kk P G σ o K := by
 unfold VX at h
 unfold Kk
 split at h
 ·grind
 ·grind
 ·exact h.elim
 ·rename_i ho
  simp only [ho]
  split at h
  ·exact h.elim
  ·rename_i hno
   rw [S4 hno, tI fun h => hno (by rw [h]; rfl)]
   exact h
 ·grind
 ·rename_i ho
  simp only [ho]
  split at h
  ·rename_i hf
   simp only [hf]
   refine zb (fun h => ?_) h
   split at h
   ·rename_i hown
    unfold wd
    rw [if_pos hown]
    unfold XQ at h
    split at h
    ·exact h.elim
    ·rename_i ho0
     rw [ho0]
     simp only
     split at h
     ·simp_all
     ·exact h.elim
   ·rename_i hno
    unfold wd
    rw [if_neg hno]
    split at h
    ·simp_all
    rename_i he
    rw [he]
    unfold wP at h
    split at h
    ·exact h.elim
    ·exact h
  ·exact h.elim
 ·rename_i ho
  simp only [ho]
  split at h
  ·rename_i ha ht
   simp only [ha, ht]
   split at h
   ·split at h
    ·exact h.elim
    grind
   ·exact h.elim
  simp_all
 grind
theorem ON {g : Bool} {σ : zK} {o : Oper} {K : zK → Prop} (h : sw P G g σ o K) : sX P G g σ o K := by
 unfold sX
 split
 ·rename_i ho
  split
  ·rename_i hf
   split
   ·rename_i hi
    unfold sw at h
    simp only [ho, hf, yN] at h
    obtain ⟨h1, h2⟩ := h
    unfold wP at h2
    rw [hi] at h2
    cases g with
    | true => split at h2 <;> exact h2.elim
    | false => split at h2 <;> exact h2
   ·exact h
  ·rename_i hf
   unfold sw at h
   simp only [ho, hf] at h
   exact h.elim
  ·exact h
 ·exact h
theorem Tu {σ : zK} {o : Oper} {K : zK → Prop} (h : Xq P G m ops o σ K) : tk P G ops o σ K := by
 unfold Xq at h
 unfold tk
 cases hg : o.guard with
 | none => rw [hg] at h; exact nW h
 | some jw =>
  rw [hg] at h
  simp only at h ⊢
  split at h
  ·rename_i g hga
   simp only [hga]
   cases hc : G.conc && !g with
   | true => simp_all
   | false => rw [hc] at h; exact ON h
  simp_all
end
end Go.Sx
