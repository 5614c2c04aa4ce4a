/- The verification condition of one operation, of a region carried out in order. -/
import Derived.Test.YtgpbohfbhfbelaaGreatDoorSxJ
import Derived.TacticsIn
set_option linter.unusedSimpArgs false
set_option linter.unusedVariables false
namespace Go.Sx
open Go Go.RowKit
def Wb (ex : TypeId → (AV → Prop) → Prop) : List TypeId → (List AV → Prop) → Prop
 | [], k => k []
 | t :: ts, k => ex t fun v => Wb ex ts fun vs => k (v :: vs)
def Ux (P : Program) : Nat → TypeId → (AV → Prop) → Prop
 | 0, _, k => ∃ r, k r
 | n + 1, t, k =>
  match P.underlying t with
  | some (.int kd) => ∃ x : Int, k (.v (.int kd x))
  | some .bool => ∃ x : Bool, k (.v (.bool x))
  | some .string => ∃ l : List UInt8, k (.str l)
  | some (.slice _) => ∃ (f : Bool) (sz len : Nat) (els : Nat → Nat → AV), k (.xl f sz len els)
  | some (.tuple ts) => Wb (Ux P n) ts.toList fun vs => k (.tup vs.length (zw vs))
  | _ => ∃ r, k r
theorem uJ {ex : TypeId → (AV → Prop) → Prop} (hex : ∀ t k, ex t k → ∃ r, k r) : ∀ (ts : List TypeId) (k : List AV → Prop), Wb ex ts k → ∃ vs, k vs
 | [], k, h => ⟨[], h⟩
 | t :: ts, k, h => by
  obtain ⟨v, hv⟩ := hex t _ h
  obtain ⟨vs, hvs⟩ := uJ hex ts _ hv
  grind
theorem SY {P : Program} : ∀ (n : Nat) (t : TypeId) (k : AV → Prop), Ux P n t k → ∃ r, k r
 | 0, t, k, h => h
 | n + 1, t, k, h => by
  unfold Ux at h
  split at h
  ·grind
  ·grind
  ·grind
  ·grind
  ·obtain ⟨vs, hvs⟩ := uJ (SY n) _ _ h
   grind
  ·exact h
def PD (P : Program) : Nat → TypeId → Bool
 | 0, _ => false
 | n + 1, t =>
  match P.underlying t with
  | some (.int _) | some .bool | some .string => true
  | some (.tuple ts) => ts.toList.all (PD P n)
  | _ => false
theorem uj {ex : TypeId → (AV → Prop) → Prop} {sc : TypeId → Bool} (hex : ∀ t k, sc t = true → ex t k → ∃ r, r.scalar = true ∧ k r) :
  ∀ (ts : List TypeId) (k : List AV → Prop), ts.all sc = true → Wb ex ts k → ∃ vs : List AV, (∀ v ∈ vs, v.scalar = true) ∧ k vs
 | [], k, _, h => ⟨[], fun _ hv => (by cases hv), h⟩
 | t :: ts, k, hs, h => by
  simp only [List.all_cons, Bool.and_eq_true] at hs
  obtain ⟨v, h1, hv⟩ := hex t _ hs.1 h
  obtain ⟨vs, h2, hvs⟩ := uj hex ts _ hs.2 hv
  grind
theorem Kk {f : Nat → Bool} {n : Nat} (h : ∀ i, i < n → f i = false) : tO f n = false := by
 induction n with
 | zero => rfl
 | succ n ih => simp only [tO, Bool.or_eq_false_iff]; exact ⟨ih fun i hi => h i (by omega), h n (by omega)⟩
theorem Sn {P : Program} : ∀ (n : Nat) (t : TypeId) (k : AV → Prop), PD P n t = true → Ux P n t k → ∃ r : AV, r.scalar = true ∧ k r
 | 0, t, k, hs, h => by cases hs
 | n + 1, t, k, hs, h => by
  unfold PD at hs
  unfold Ux at h
  split at hs
  ·rename_i kd hu
   rw [hu] at h
   obtain ⟨x, hx⟩ := h; exact ⟨_, rfl, hx⟩
  ·rename_i hu
   rw [hu] at h
   obtain ⟨x, hx⟩ := h; exact ⟨_, rfl, hx⟩
  ·rename_i hu
   rw [hu] at h
   obtain ⟨x, hx⟩ := h; exact ⟨_, rfl, hx⟩
  ·rename_i ts hu
   rw [hu] at h
   obtain ⟨vs, h1, hvs⟩ := uj (Sn n) _ _ hs h
   refine ⟨_, ?_, hvs⟩
   simp only [AV.scalar, Bool.not_eq_true']
   refine Kk fun i hi => ?_
   simp only [zw, List.getElem?_eq_getElem hi, Option.getD_some, Bool.not_eq_false']
   simp_all
  ·cases hs
def zS (want t : Bool) : Bool := bif want then t else !t
def YS (ops : List Oper) (σ : zh) (j : Nat) (want : Bool) : Option Bool :=
 match ops[j]? with
 | some o =>
  match o.dst with
  | some d =>
   if d < σ.n then
    match σ.tm d with
    | .v (.bool t) => some (zS want t)
    | .gd g (.v (.bool t)) => some (g && zS want t)
    | _ => none
   else none
  | none => none
 | none => none
theorem RI (want t : Bool) : ((some t : Option Bool) == some want) = zS want t := by cases want <;> cases t <;> rfl
theorem ua {ops : List Oper} {σ : zh} {j : Nat} {want g : Bool} {w : World} {S : Nat → Prop} {ρ : Nat → Own} {a : Act} (h : YS ops σ j want = some g)
  (hF : Y3 w S ρ σ.n σ.tm a) : (yielded ops.toArray a.tmps j == some want) = g := by
 unfold YS at h
 split at h
 ·rename_i o ho
  split at h
  ·rename_i d hd
   split at h
   ·rename_i hlt
    have hr := hF.2 d hlt
    have hy : yielded ops.toArray a.tmps j = match a.tmps.getD d undef with | .bool b => some b | _ => none := by
     unfold yielded
     have hsz : d < a.tmps.size := by rw [hF.1]; exact hlt
     simp only [List.getElem?_toArray, ho, Option.bind_some, hd, Array.getD_eq_getD_getElem?, Array.getElem?_eq_getElem hsz, Option.getD_some]
     cases a.tmps[d] <;> rfl
    split at h
    ·rename_i t ht
     cases h
     rw [ht] at hr
     rw [hy, ZS hr]
     exact RI want t
    ·rename_i g0 t ht
     cases h
     rw [ht] at hr
     cases hr with
     | gd v h1 h2 =>
      cases g0 with
      | true =>
       rw [hy, ZS (h1 rfl)]
       exact RI want t
      | false =>
       rw [hy, h2 rfl]
       rfl
    ·cases h
   ·cases h
  ·cases h
 ·cases h
def AV.refs : AV → List Nat
 | .np k _ | .ns k _ _ | .ap k _ _ | .ps k _ => [k]
 | .agg n cs => (List.range n).flatMap fun i => (cs i).refs
 | .tup n cs => (List.range n).flatMap fun i => (cs i).refs
 | .fn _ nf f nc c => ((List.range nf).flatMap fun i => (f i).refs) ++ (List.range nc).flatMap fun i => (c i).refs
 | .gd _ x => x.refs
 | _ => []
def Qy (bl : Nat → OB) (x : AV) : List Nat :=
 x.refs.flatMap fun k => (match bl k with
  | .box _ n cells => (List.range n).flatMap fun i => (cells i).refs
  | _ => []) ++ [k]
def U5 : List Nat → zh → List AV → Option (zh × List AV)
 | [], σ, xs => some (σ, xs)
 | k :: ks, σ, xs => if k < σ.nb then U5 ks (σ.frz k) (xs.map fun x => x.frz σ.bl k) else none
def Y8 (σ : zh) (xs : List AV) : Option (zh × List AV) :=
 if xs.any AV.hasOwn then U5 (xs.flatMap (Qy σ.bl)) σ xs else some (σ, xs)
def Vv (σ : zh) (x p : AV) : Option (zh × List AV) :=
 if x.hasOwn then U5 (Qy σ.bl x) σ [x, p] else some (σ, [x, p])
def Yw (nf : Nat) (first : Nat → AV) (args : List AV) (nc : Nat) (cap : Nat → AV) : List AV :=
 (List.range nf).map first ++ args ++ (List.range nc).map cap
def QV (g : Bool) (ps : List zN) (k : Prop) : Prop := Yf (ps.map fun p => p.under g) k
def gT : Option Bool → Prop
 | none => True
 | some g => g = true
def MZ (g : Option Bool) (ps : List zN) (k : Prop) : Prop :=
 match g with
 | none => Yf ps k
 | some g => QV g ps k
def GO (P : Program) (G : Cx) (g : Option Bool) (f : FuncId) (xs : List AV) (r : AV) : Prop :=
 match g with
 | none => zv P G.objs f xs r
 | some g => g = true → zv P G.objs f xs r
def x9 (P : Program) (G : Cx) (g : Option Bool) (f : FuncId) (xs : List AV) (t : TypeId) (K : AV → Prop) : Prop :=
 match G.pu f xs with
 | some (ps, r) => MZ g ps (K r)
 | none => Ux P 3 t fun r => GO P G g f xs r ∧ K r
def Wg (P : Program) (G : Cx) (f : FuncId) (xs : List AV) (t : TypeId) : Bool :=
 match G.pu f xs with
 | some (_, r) => r.scalar
 | none => PD P 3 t
def inl (G : Cx) (f : FuncId) (xs : List AV) : Bool := (G.own f).isSome && (G.pu f xs).isNone
def UC (P : Program) (t : TypeId) : AV :=
 match P.info? t with
 | some it => (match it.zero with
  | some z => bif Nat.beq z.cells.size 1 then .v (z.cells.getD 0 undef) else .junk
  | none => .junk)
 | none => .junk
def Wy (P : Program) (G : Cx) (g : Option Bool) (f : FuncId) (xs : List AV) (t : TypeId) (K : AV → Prop) : Prop :=
 match inl G f xs with
 | true => (match g with | some false => K (UC P t) | _ => Ze f)
 | false => x9 P G g f xs t K
def vA (G : Cx) (σ : zh) (f : FuncId) (xs : List AV) (k : zh → AV → Prop) : Prop :=
 match G.own f with
 | some T => T σ.nb σ.bl xs fun nb' bl' r => k { σ with nb := nb', bl := bl' } r
 | none => Ze f
def xy (G : Cx) (σ : zh) (f : FuncId) (xs : List AV) : Option (List zN × zh × AV) :=
 match G.fre f xs with
 | some (ps, t, sz, len, els) => some (ps, σ.add (.arr t sz len els), .ns σ.nb 0 len)
 | none => none
def WN (P : Program) (G : Cx) (σ : zh) (f : FuncId) (xs : List AV) (t : TypeId) (dst : Option Tmp) (k : zh → Prop) : Prop :=
 if xs.any AV.hasOwn then
  match G.own f with
  | some T => T σ.nb σ.bl xs fun nb' bl' r => k (({ σ with nb := nb', bl := bl' } : zh).put dst r)
  | none =>
   if Wg P G f (xs.map (lend σ.bl)) t then x9 P G none f (xs.map (lend σ.bl)) t fun r => k (σ.put dst r)
   else
    match Y8 σ xs with
    | some (σ', xs') =>
     if xs'.any AV.hasOwn then Ze f
     else
      match xy G σ' f xs' with
      | some (ps, σ1, r) => Yf ps (k (σ1.put dst r))
      | none => x9 P G none f xs' t fun r => k (σ'.put dst r)
    | none => Ze f
 else
  match xy G σ f xs with
  | some (ps, σ1, r) => Yf ps (k (σ1.put dst r))
  | none =>
   match inl G f xs with
   | true => vA G σ f xs fun σ' r => k (σ'.put dst r)
   | false => x9 P G none f xs t fun r => k (σ.put dst r)
def Zc (σ : zh) (l : List Operand) : List zN := l.flatMap fun x => (σ.ev x).gprop
def zh.sv (σ : zh) (x : Operand) : AV := (σ.ev x).strip
def JM (P : Program) (G : Cx) (σ : zh) (o : Oper) (k : zh → Prop) : Prop :=
 match o.op with
 | .alloc elem =>
  match xe P σ elem with
  | some (σ', r) => k (σ'.put o.dst r)
  | none => Ze o
 | .box t x =>
  match Wn σ t (σ.sv x) with
  | some (σ', r) => Yf (σ.ev x).gprop (k (σ'.put o.dst r))
  | none => Ze o
 | .store t p x =>
  match (match σ.sv p with | .ap _ _ _ => Vv σ (σ.sv x) (σ.sv p) | _ => some (σ, [σ.sv x, σ.sv p])) with
  | some (σ1, [x', p']) =>
   match Tu P σ1 t p' x' with
   | some σ' => Yf ((σ.ev p).gprop ++ (σ.ev x).gprop) (k (σ'.put o.dst .junk))
   | none => Ze o
  | _ => Ze o
 | .buildSlice t len parts =>
  match VM P σ t len (parts.toList.map (·.1)) (parts.toList.map (·.2)) (parts.toList.map fun p => σ.sv p.2) with
  | some (σ', r) => Yf (Zc σ (parts.toList.map (·.2))) (k (σ'.put o.dst r))
  | none =>
  match Y8 σ (parts.toList.map fun p => σ.sv p.2) with
  | some (σ1, xs) =>
   match ZM P σ1 t len (parts.toList.map (·.1)) xs with
   | some (σ', r) => Yf (Zc σ (parts.toList.map (·.2))) (k (σ'.put o.dst r))
   | none => Ze o
  | none => Ze o
 | .makeSlice t l c =>
  match yK P σ t (σ.sv l) (σ.sv c) with
  | some (ps, σ', r) => Yf ((σ.ev l).gprop ++ (σ.ev c).gprop ++ ps) (k (σ'.put o.dst r))
  | none => Ze o
 | .call { callee := .value f, args, .. } =>
  match σ.sv f with
  | .fn (.func fid) nf first nc cap =>
   Yf ((σ.ev f).gprop ++ Zc σ args.toList) (WN P G σ fid (Yw nf first (args.toList.map σ.sv) nc cap) o.type o.dst k)
  | .yl p =>
   match G.yld p with
   | some T => Yf ((σ.ev f).gprop ++ Zc σ args.toList) (T σ.nb σ.bl (args.toList.map σ.sv) fun nb' bl' r => k (({ σ with nb := nb', bl := bl' } : zh).put o.dst r))
   | none => Ze o
  | _ => Ze o
 | .call { callee := .builtin .append, args, argTypes } =>
  match args.toList, argTypes.toList with
  | [s, x], [t, t'] =>
   if t = t' then
    match Ys P σ t (σ.sv s) (σ.sv x) with
    | some (ps, σ', r) => Yf ((σ.ev s).gprop ++ (σ.ev x).gprop ++ ps) (k (σ'.put o.dst r))
    | none => Ze o
   else
    match uy P σ t t' (σ.sv s) (σ.sv x) with
    | some (ps, σ', r) => Yf ((σ.ev s).gprop ++ (σ.ev x).gprop ++ ps) (k (σ'.put o.dst r))
    | none => Ze o
  | _, _ => Ze o
 | op =>
  match y6 P G.objs σ.bl σ.ev op with
  | some (ps, r) => Yf ps (k (σ.put o.dst r))
  | none => Ze o
def rE (P : Program) (G : Cx) (g : Bool) (σ : zh) (o : Oper) (k : zh → Prop) : Prop :=
 match o.op with
 | .call { callee := .value f, args, .. } =>
  match σ.sv f with
  | .fn (.func fid) nf first nc cap =>
   QV g ((σ.ev f).gprop ++ Zc σ args.toList) <|
    if (Yw nf first (args.toList.map σ.sv) nc cap).any AV.hasOwn then
     match inl G fid (Yw nf first (args.toList.map σ.sv) nc cap) with
     | true => (match g with | false => k (σ.put o.dst (.gd g (UC P o.type))) | true => Ze o)
     | false => if Wg P G fid ((Yw nf first (args.toList.map σ.sv) nc cap).map (lend σ.bl)) o.type then x9 P G (some g) fid ((Yw nf first (args.toList.map σ.sv) nc cap).map (lend σ.bl)) o.type fun r => k (σ.put o.dst (.gd g r)) else Ze o
    else Wy P G (some g) fid (Yw nf first (args.toList.map σ.sv) nc cap) o.type fun r => k (σ.put o.dst (.gd g r))
  | _ => Ze o
 | .buildSlice t len parts =>
  if ((parts.toList.map fun p => σ.sv p.2).any AV.hasOwn || V1 (parts.toList.map (·.2))) = true then Ze o
  else
   match ZM P σ t len (parts.toList.map (·.1)) (parts.toList.map fun p => σ.sv p.2) with
   | some (_, r) => QV g (Zc σ (parts.toList.map (·.2))) (k (σ.put o.dst (.gd g r)))
   | none => Ze o
 | op =>
  match y6 P G.objs σ.bl σ.ev op with
  | some (ps, r) => QV g ps (k (σ.put o.dst (.gd g r)))
  | none => Ze o
def zZ (t : Bool) (A B : Prop) : Prop :=
 match t with
 | true => A
 | false => B
theorem zY {t : Bool} {A B : Prop} : zZ t A B ↔ (t = true → A) ∧ (t = false → B) := by
 cases t <;> simp [zZ]
def Ry (P : Program) (G : Cx) (g : Bool) (σ : zh) (o : Oper) (k : zh → Prop) : Prop :=
 match o.op with
 | .call { callee := .value f, args, .. } =>
  match σ.sv f with
  | .fn (.func fid) nf first nc cap =>
   match inl G fid (Yw nf first (args.toList.map σ.sv) nc cap) with
   | true => zZ g (Yf ((σ.ev f).gprop ++ Zc σ args.toList) (vA G σ fid (Yw nf first (args.toList.map σ.sv) nc cap) fun σ' r => k (σ'.put o.dst (.gd true r)))) (k (σ.put o.dst (.gd false (UC P o.type))))
   | false => rE P G g σ o k
  | .yl p =>
   match G.yld p with
   | some T => zZ g (Yf ((σ.ev f).gprop ++ Zc σ args.toList) (T σ.nb σ.bl (args.toList.map σ.sv) fun nb' bl' r => k (({ σ with nb := nb', bl := bl' } : zh).put o.dst (.gd true r)))) (k (σ.put o.dst (.gd false (.v (.bool false)))))
   | none => Ze o
  | _ => rE P G g σ o k
 | _ => rE P G g σ o k
def T5 (P : Program) (G : Cx) (ops : List Oper) (o : Oper) (σ : zh) (k : zh → Prop) : Prop :=
 match o.guard with
 | none => JM P G σ o k
 | some (j, want) =>
  match YS ops σ j want with
  | some g =>
   match G.conc && !g with
   | true => k (σ.put o.dst (.gd false (UC P o.type)))
   | false => Ry P G g σ o k
  | none => Ze o
def ub (P : Program) (G : Cx) (ops : List Oper) : List Oper → zh → (zh → Prop) → Prop
 | [], σ, k => k σ
 | o :: rest, σ, k => T5 P G ops o σ fun σ' => ub P G ops rest σ' k
end Go.Sx

namespace Go.Sx
open Go Go.RowKit
def FW (r : Option Nat) : Fence := { Fence.wide with round := r }
theorem wt {r : Option Nat} {n : Nat} {P : Program} {f : FuncId} {args : Array Value} {w : World} {R : Ending → World → Prop} :
  CallsIn (FW r) n P f args w R ↔ Calls P f args w R := callsIn_wide (n := n)
section
variable {P : Program} {E : Env} {S : Nat → Prop} {ρ : Nat → Own} {w : World} {r : Option Nat} {n : Nat}
theorem vf {o : Oper} {a : Act} {K : Act → World → Prop} {Q : Exit → Act → World → Prop} {v : Value} {w' : World} (hnd : ∀ c, o.op ≠ .defer c)
  (hrun : (execOp a.eval o).run P w = .ok (.value v) w') (h : K (a.put o.dst v) w') : o.wpIn (FW r) n P a w K Q := by
 refine ⟨fun _ _ => trivial, ?_⟩
 rw [Oper.semAt_eq _ _ _ hnd, hrun]
 exact h
theorem PR {o : Oper} {a : Act} {K : Act → World → Prop} {Q : Exit → Act → World → Prop} {w' : World} (hnd : ∀ c, o.op ≠ .defer c)
  (hrun : (execOp a.eval o).run P w = .ok .skip w') (h : K (a.put o.dst undef) w') : o.wpIn (FW r) n P a w K Q := by
 refine ⟨fun _ _ => trivial, ?_⟩
 rw [Oper.semAt_eq _ _ _ hnd, hrun]
 exact h
theorem vh {o : Oper} {a : Act} {K : Act → World → Prop} {Q : Exit → Act → World → Prop} {f : FuncId} {args : Array Value} (hnd : ∀ c, o.op ≠ .defer c)
  (hrun : (execOp a.eval o).run P w = .ok (.enter f args) w) (h : Calls P f args w fun e w' => ∃ v, e = .returned v ∧ K (a.put o.dst v) w') : o.wpIn (FW r) n P a w K Q := by
 refine ⟨fun _ _ => trivial, ?_⟩
 rw [Oper.semAt_eq _ _ _ hnd, hrun]
 refine ⟨(fun h => by cases h), wt.2 (h.mono ?_)⟩
 simp_all
theorem Y4 {o : Oper} {a : Act} {K : Act → World → Prop} {Q : Exit → Act → World → Prop} {σ' : zh} {x : AV} (hnd : ∀ c, o.op ≠ .defer c) (h : Eff P E a.eval o a w σ' x)
  (hK : ∀ a' w', St E (σ'.put o.dst x) a' w' → K a' w') : o.wpIn (FW r) n P a w K Q := by
 obtain ⟨nx, v, w', S', ρ', hrun, hnx, hM, hF, hD, hR⟩ := h
 have hst : St E (σ'.put o.dst x) (a.put o.dst v) w' := by
  refine ⟨S', ρ', ?_, hF.putO o.dst x v hR, by rw [YM]; exact hD⟩
  cases o.dst <;> exact hM
 rcases hnx with rfl | ⟨rfl, rfl⟩
 ·exact vf hnd hrun (hK _ _ hst)
 ·exact PR hnd hrun (hK _ _ hst)
theorem Uf {o : Oper} {a : Act} {K : Act → World → Prop} {Q : Exit → Act → World → Prop} {l : Nat} {f : FuncId} {tmps : Array Value} {as bd : Code} (hnd : ∀ c, o.op ≠ .defer c)
  (hrun : (execOp a.eval o).run P w = .ok (.round l f tmps as bd) w) (h : RoundIn (FW r) (n - 1) P l f tmps as bd w fun e w' => ∃ v, e = .returned v ∧ K (a.put o.dst v) w') : o.wpIn (FW r) n P a w K Q := by
 refine ⟨fun _ _ => trivial, ?_⟩
 rw [Oper.semAt_eq _ _ _ hnd, hrun]
 refine ⟨(fun h => by cases h), h.mono ?_⟩
 simp_all
theorem sU {o : Oper} {fo : Operand} {args : Array Operand} {ts : Array TypeId} {e : Operand → Value} {g : Nat} {fn : FuncId} {tmps : Array Value} {as bd : Code}
  (ho : o.op = .call { callee := .value fo, args, argTypes := ts }) (hf : e fo = .func (.yield g) #[] #[]) (he : (Instr.yield g (args.toList.map e).toArray).run P w = .ok (.round g fn tmps as bd) w) :
  (execOp e o).run P w = .ok (.round g fn tmps as bd) w := by
 simp only [execOp, ho, resolve, hf, Deferred.ofValue, Sem.run_bind, Sem.run_pure, Result.andThen_ok, invoke]
 rw [← he]
 congr 2
 grind
theorem ZH.frz {bl : Nat → OB} {k : Nat} {S' : Nat → Prop} {ρ' : Nat → Own} {xs : List AV} {vs : List Value} (h : ZH w S ρ xs vs)
  (hh : ∀ x v, zE w S ρ x v → zE w S' ρ' (x.frz bl k) v) : ZH w S' ρ' (xs.map fun x => x.frz bl k) vs := by
 induction xs generalizing vs with
 | nil => cases vs <;> exact h
 | cons x xs ih => cases vs with
  | nil => exact h.elim
  | cons v vs => exact ⟨hh _ _ h.1, ih h.2⟩
theorem VI {ks : List Nat} {σ σ' : zh} {xs xs' : List AV} {vs : List Value} {a : Act} (h : U5 ks σ xs = some (σ', xs')) (hM : Mem E σ.nb σ.bl S ρ w) (hF : Y3 w S ρ σ.n σ.tm a)
  (hD : W2 E.w0.heap.size w S a.defers) (hx : ZH w S ρ xs vs) :
  ∃ S' ρ', Mem E σ'.nb σ'.bl S' ρ' w ∧ Y3 w S' ρ' σ'.n σ'.tm a ∧ W2 E.w0.heap.size w S' a.defers ∧ ZH w S' ρ' xs' vs := by
 induction ks generalizing σ xs S ρ with
 | nil => cases h; exact ⟨S, ρ, hM, hF, hD, hx⟩
 | cons k ks ih =>
  simp only [U5] at h
  split at h
  ·rename_i hk
   obtain ⟨S', h1, h2, h3, h4⟩ := Ns hM hF hk
   exact ih h h1 h2 (hD.mono fun b hb => ⟨h3 b hb, rfl⟩) (hx.frz h4)
  ·cases h
theorem XO {σ σ' : zh} {xs xs' : List AV} {vs : List Value} {a : Act} (h : Y8 σ xs = some (σ', xs')) (hM : Mem E σ.nb σ.bl S ρ w) (hF : Y3 w S ρ σ.n σ.tm a)
  (hD : W2 E.w0.heap.size w S a.defers) (hx : ZH w S ρ xs vs) :
  ∃ S' ρ', Mem E σ'.nb σ'.bl S' ρ' w ∧ Y3 w S' ρ' σ'.n σ'.tm a ∧ W2 E.w0.heap.size w S' a.defers ∧ ZH w S' ρ' xs' vs := by
 unfold Y8 at h
 split at h
 ·exact VI h hM hF hD hx
 grind
theorem t8 {σ σ' : zh} {x p : AV} {xs' : List AV} {vs : List Value} {a : Act} (h : Vv σ x p = some (σ', xs')) (hM : Mem E σ.nb σ.bl S ρ w) (hF : Y3 w S ρ σ.n σ.tm a)
  (hD : W2 E.w0.heap.size w S a.defers) (hx : ZH w S ρ [x, p] vs) :
  ∃ S' ρ', Mem E σ'.nb σ'.bl S' ρ' w ∧ Y3 w S' ρ' σ'.n σ'.tm a ∧ W2 E.w0.heap.size w S' a.defers ∧ ZH w S' ρ' xs' vs := by
 unfold Vv at h
 split at h
 ·exact VI h hM hF hD hx
 grind
structure UW (P : Program) (objs : List (Nat × Obj)) (f : FuncId) (T : Nat → (Nat → OB) → List AV → (Nat → (Nat → OB) → AV → Prop) → Prop) : Prop where
 enters : ∀ args w, (callFunc f args).run P w = .ok (.enter f args) w
 mono : ∀ nb bl xs (k k' : Nat → (Nat → OB) → AV → Prop), (∀ nb bl x, k nb bl x → k' nb bl x) → T nb bl xs k → T nb bl xs k'
 sound : ∀ (E : Env) nb bl S ρ w xs vs k, E.G.objs = objs → Mem E nb bl S ρ w → ZH w S ρ xs vs → T nb bl xs k →
  Calls P f vs.toArray w fun e w' => ∃ nb' bl' S' ρ' x rv, e = .returned rv ∧ k nb' bl' x ∧ Mem E nb' bl' S' ρ' w' ∧ (∀ b, S b → S' b ∧ w'.heap[b]? = w.heap[b]?) ∧ zG ρ ρ' ∧ zE w' S' ρ' x rv
structure ZY (P : Program) (G : Cx) : Prop where
 own : ∀ f T, G.own f = some T → UW P G.objs f T
 pu : ∀ f xs ps r, G.pu f xs = some (ps, r) → (∀ p ∈ ps, p.holds) → zv P G.objs f xs r
 fre : ∀ f xs ps t sz len els, G.fre f xs = some (ps, t, sz, len, els) → (∀ p ∈ ps, p.holds) → yM P G.objs f xs t sz len els
 mono : ∀ p T, G.yld p = some T → ∀ nb bl xs (k k' : Nat → (Nat → OB) → AV → Prop), (∀ nb bl x, k nb bl x → k' nb bl x) → T nb bl xs k → T nb bl xs k'
def jX (E : Env) (S : Nat → Prop) (ρ : Nat → Own) (w : World) (k : Nat → (Nat → OB) → AV → Prop) (e : Ending) (w' : World) : Prop :=
 ∃ nb' bl' S' ρ' x rv, e = .returned rv ∧ k nb' bl' x ∧ Mem E nb' bl' S' ρ' w' ∧ (∀ b, S b → S' b ∧ w'.heap[b]? = w.heap[b]?) ∧ zG ρ ρ' ∧ zE w' S' ρ' x rv
structure HJ (w0 : World) (S0 : Nat → Prop) (ρ0 : Nat → Own) (w : World) (S : Nat → Prop) (ρ : Nat → Own) : Prop where
 S : ∀ b, S0 b → S b ∧ w.heap[b]? = w0.heap[b]?
 le : zG ρ0 ρ
def sB (P : Program) (objs : List (Nat × Obj)) (p : Nat) (T : Nat → (Nat → OB) → List AV → (Nat → (Nat → OB) → AV → Prop) → Prop) (w0 : World) (S0 : Nat → Prop) (ρ0 : Nat → Own) : Prop :=
 ∀ (E : Env) nb bl S ρ w xs vs k v, E.G.objs = objs → HJ w0 S0 ρ0 w S ρ → Mem E nb bl S ρ w → ZH w S ρ xs vs → zE w S ρ (.yl p) v → T nb bl xs k →
  ∃ g fn tmps as bd, v = .func (.yield g) #[] #[] ∧ (Instr.yield g vs.toArray).run P w = .ok (.round g fn tmps as bd) w ∧ ∀ r n, RoundIn (FW r) n P g fn tmps as bd w (jX E S ρ w k)
structure YN (P : Program) (E : Env) : Prop where
 S0 : ∀ b, E.S0 b → b < E.w0.heap.size ∧ ¬ E.X b
 r0 : ∀ k, E.G.nb0 ≤ k → E.r0 k = .none
 at_ : ∀ p T, E.G.yld p = some T → sB P E.G.objs p T E.w0 E.S0 E.r0
theorem YN.ext (hY : YN P E) {nb : Nat} {bl : Nat → OB} (hM : Mem E nb bl S ρ w) : HJ E.w0 E.S0 E.r0 w S ρ :=
 ⟨fun b hb => ⟨hM.sup b hb, hM.fr.block b (hY.S0 b hb).1 (hY.S0 b hb).2⟩, fun k => by
  by_cases hk : k < E.G.nb0
  ·rcases hM.ole k hk with e | e
   all_goals simp_all
  ·exact .inr (.inr (hY.r0 k (Nat.not_lt.1 hk)))⟩
theorem ZH.append {xs ys : List AV} {vs us : List Value} (h1 : ZH w S ρ xs vs) (h2 : ZH w S ρ ys us) : ZH w S ρ (xs ++ ys) (vs ++ us) := by
 induction xs generalizing vs with
 | nil => cases vs with
  | nil => exact h2
  | cons => exact h1.elim
 | cons x xs ih => cases vs with
  | nil => exact h1.elim
  | cons v vs => exact ⟨h1.1, ih h1.2⟩
theorem ZH.ofArr {k : Nat} {f : Nat → AV} {vs : Array Value} (hn : vs.size = k) (h : ∀ i, i < k → zE w S ρ (f i) (vs.getD i undef)) : ZH w S ρ ((List.range k).map f) vs.toList := by
 obtain ⟨l⟩ := vs
 have hn' : l.length = k := by simpa using hn
 subst hn'
 clear hn
 induction l generalizing f with
 | nil => trivial
 | cons v l ih =>
  simp only [List.size_toArray, List.length_cons, List.range_succ_eq_map, List.map_cons, List.map_map]
  refine ⟨by simpa using h 0 (by simp), ih (f := f ∘ Nat.succ) fun i hi => ?_⟩
  have := h (i + 1) (by simp only [List.size_toArray, List.length_cons] at hi ⊢; omega)
  simp_all
theorem tK {o : Oper} {fo : Operand} {args : Array Operand} {ts : Array TypeId} {e : Operand → Value} {f : FuncId} {vs us : Array Value}
  (ho : o.op = .call { callee := .value fo, args, argTypes := ts }) (hf : e fo = .func (.func f) vs us) (he : ∀ args w, (callFunc f args).run P w = .ok (.enter f args) w) :
  (execOp e o).run P w = .ok (.enter f (vs.toList ++ args.toList.map e ++ us.toList).toArray) w := by
 simp only [execOp, ho, resolve, hf, Deferred.ofValue, Sem.run_bind, Sem.run_pure, Result.andThen_ok, invoke, he]
 simp
theorem Yl {σ : zh} {l : List Operand} {a : Act} (hF : Y3 w S ρ σ.n σ.tm a) (hp : ∀ p ∈ Zc σ l, p.holds) : ZH w S ρ (l.map σ.sv) (l.map a.eval) :=
 ZH.map fun x hx => (hF.ev x).strip fun p hp' => hp p (List.mem_flatMap.2 ⟨x, hx, hp'⟩)
theorem Q5 {σ : zh} {a : Act} {fo : Operand} {args : Array Operand} {f : Fn} {nf nc : Nat} {first cap : Nat → AV} (hF : Y3 w S ρ σ.n σ.tm a) (hf : σ.sv fo = .fn f nf first nc cap)
  (hp : ∀ p ∈ (σ.ev fo).gprop ++ Zc σ args.toList, p.holds) :
  ∃ vs us, a.eval fo = .func f vs us ∧ ZH w S ρ (Yw nf first (args.toList.map σ.sv) nc cap) (vs.toList ++ args.toList.map a.eval ++ us.toList) := by
 have h1 := (hF.ev fo).strip fun p hp' => hp p (List.mem_append_left _ hp')
 rw [show (σ.ev fo).strip = σ.sv fo from rfl, hf] at h1
 obtain ⟨pv, hpv⟩ : ∃ pv, a.eval fo = pv := ⟨_, rfl⟩
 rw [hpv] at h1 ⊢
 cases h1 with
 | fn vs us hn hm hr hs =>
  exact ⟨vs, us, rfl, ((ZH.ofArr hn hr).append (Yl hF fun p hp' => hp p (List.mem_append_right _ hp'))).append (ZH.ofArr hm hs)⟩
theorem Xs {xs : List AV} (h : xs.any AV.hasOwn = false) : ∀ x ∈ xs, x.hasOwn = false := fun x hx => by
 simp_all
theorem XD {σ : zh} {a : Act} {f : FuncId} {x : AV} {vs : Array Value} {K : Act → World → Prop} {dst : Option Tmp} (hF : Y3 w S ρ σ.n σ.tm a) (hD : W2 E.w0.heap.size w S a.defers)
  (h : Calls P f vs w (After E σ.nb σ.bl S ρ w x)) (hK : ∀ a' w', St E (σ.put dst x) a' w' → K a' w') : Calls P f vs w fun e w' => ∃ v, e = .returned v ∧ K (a.put dst v) w' := by
 refine h.mono ?_
 rintro e w' ⟨rv, S', rfl, hM, hS, hR⟩
 refine ⟨rv, rfl, hK _ _ ⟨S', ρ, ?_, (hF.mono hS (zG.refl _)).putO dst x rv hR, by rw [YM]; exact hD.mono hS⟩⟩
 cases dst <;> exact hM
theorem yi (g : Bool) (ps : List zN) (k : Prop) : QV g ps k ↔ (g = true → ∀ p ∈ ps, p.holds) ∧ k := by
 unfold QV
 rw [Zo]
 constructor
 ·rintro ⟨h, hk⟩
  exact ⟨fun hg p hp => Wq (h _ (List.mem_map.2 ⟨p, hp, rfl⟩)) hg, hk⟩
 ·rintro ⟨h, hk⟩
  refine ⟨fun q hq => ?_, hk⟩
  obtain ⟨p, hp, rfl⟩ := List.mem_map.1 hq
  cases g with
  | true =>
   have := h rfl p hp
   cases p with
   | b x => assumption
   | p x => exact fun _ => this
  | false =>
   cases p with
   | b x => rfl
   | p x => exact fun e => by cases e
theorem vE (hO : ZY P E.G) {g : Option Bool} {f : FuncId} {xs : List AV} {t : TypeId} {K : AV → Prop} (h : x9 P E.G g f xs t K) :
  ∃ r, (gT g → zv P E.G.objs f xs r) ∧ K r := by
 unfold x9 at h
 split at h
 ·rename_i ps r hpu
  cases g with
  | none =>
   have := (Zo _ _).1 h
   exact ⟨r, fun _ => hO.pu _ _ _ _ hpu this.1, this.2⟩
  | some g =>
   have := (yi _ _ _).1 h
   exact ⟨r, fun hg => hO.pu _ _ _ _ hpu (this.1 hg), this.2⟩
 ·obtain ⟨r, h1, h2⟩ := SY 3 t _ h
  cases g with
  | none => exact ⟨r, fun _ => h1, h2⟩
  | some g => exact ⟨r, h1, h2⟩
theorem TU (hO : ZY P E.G) {g : Option Bool} {f : FuncId} {xs : List AV} {t : TypeId} {K : AV → Prop} (hl : Wg P E.G f xs t = true) (h : x9 P E.G g f xs t K) :
  ∃ r : AV, r.scalar = true ∧ (gT g → zv P E.G.objs f xs r) ∧ K r := by
 unfold Wg at hl
 unfold x9 at h
 split at h
 ·rename_i ps r hpu
  rw [hpu] at hl
  cases g with
  | none =>
   have := (Zo _ _).1 h
   exact ⟨r, hl, fun _ => hO.pu _ _ _ _ hpu this.1, this.2⟩
  | some g =>
   have := (yi _ _ _).1 h
   exact ⟨r, hl, fun hg => hO.pu _ _ _ _ hpu (this.1 hg), this.2⟩
 ·rename_i hpu
  rw [hpu] at hl
  obtain ⟨r, h0, h1, h2⟩ := Sn 3 t _ hl h
  cases g with
  | none => exact ⟨r, h0, fun _ => h1, h2⟩
  | some g => exact ⟨r, h0, h1, h2⟩
theorem tw (hO : ZY P E.G) {σ : zh} {a : Act} {f : FuncId} {xs : List AV} {vs : List Value} {k : zh → AV → Prop} {K : Value → World → Prop} (hv : vA E.G σ f xs k)
  (hM : Mem E σ.nb σ.bl S ρ w) (hF : Y3 w S ρ σ.n σ.tm a) (hD : W2 E.w0.heap.size w S a.defers) (hx : ZH w S ρ xs vs)
  (hK : ∀ σ' x v w' S' ρ', k σ' x → Mem E σ'.nb σ'.bl S' ρ' w' → Y3 w' S' ρ' σ'.n σ'.tm a → W2 E.w0.heap.size w' S' a.defers → zE w' S' ρ' x v → K v w') :
  (∀ args w, (callFunc f args).run P w = .ok (.enter f args) w) ∧ Calls P f vs.toArray w fun e w' => ∃ v, e = .returned v ∧ K v w' := by
 unfold vA at hv
 split at hv
 ·rename_i T hT
  have hOT := hO.own f T hT
  refine ⟨hOT.enters, (hOT.sound E _ _ _ _ _ _ _ _ rfl hM hx hv).mono ?_⟩
  rintro e w' ⟨nb', bl', S', ρ', x, rv, rfl, hk, hM', hS, hle, hR⟩
  exact ⟨rv, rfl, hK _ _ _ _ S' ρ' hk hM' (hF.mono hS hle) (hD.mono hS) hR⟩
 ·exact hv.elim
theorem sW (hO : ZY P E.G) {σ σ1 : zh} {a : Act} {f : FuncId} {xs : List AV} {vs : List Value} {dst : Option Tmp} {k : zh → Prop} {K : Act → World → Prop} {ps : List zN} {r : AV}
  (he : xy E.G σ f xs = some (ps, σ1, r)) (hv : Yf ps (k (σ1.put dst r)))
  (hM : Mem E σ.nb σ.bl S ρ w) (hF : Y3 w S ρ σ.n σ.tm a) (hD : W2 E.w0.heap.size w S a.defers) (hx : ZH w S ρ xs vs) (hno : ∀ x ∈ xs, x.hasOwn = false) (hK : ∀ σ' a' w', k σ' → St E σ' a' w' → K a' w') :
  (∀ args w, (callFunc f args).run P w = .ok (.enter f args) w) ∧ Calls P f vs.toArray w fun e w' => ∃ v, e = .returned v ∧ K (a.put dst v) w' := by
 unfold xy at he
 split at he
 ·rename_i ps' t sz len els hfre
  cases he
  rw [Zo] at hv
  have hc := hO.fre _ _ _ _ _ _ _ hfre hv.1
  refine ⟨hc.1, (Qa hM hx hno hc).mono ?_⟩
  rintro e w' ⟨v, S', o, rfl, h1, h2, h3, h4⟩
  refine ⟨v, rfl, hK _ _ _ hv.2 ⟨S', _, ?_, Y3.putO (σ := σ.add (.arr t sz len els)) (hF.mono h3 h2) dst _ v h4, by rw [YM]; exact hD.mono h3⟩⟩
  cases dst <;> exact h1
 ·cases he
theorem Rx (hO : ZY P E.G) {σ : zh} {a : Act} {f : FuncId} {xs : List AV} {vs : List Value} {t : TypeId} {dst : Option Tmp} {k : zh → Prop} {K : Act → World → Prop} (hv : WN P E.G σ f xs t dst k)
  (hM : Mem E σ.nb σ.bl S ρ w) (hF : Y3 w S ρ σ.n σ.tm a) (hD : W2 E.w0.heap.size w S a.defers) (hx : ZH w S ρ xs vs) (hK : ∀ σ' a' w', k σ' → St E σ' a' w' → K a' w') :
  (∀ args w, (callFunc f args).run P w = .ok (.enter f args) w) ∧ Calls P f vs.toArray w fun e w' => ∃ v, e = .returned v ∧ K (a.put dst v) w' := by
 have fin : ∀ σ' x v w' S' ρ', k ((σ' : zh).put dst x) → Mem E σ'.nb σ'.bl S' ρ' w' → Y3 w' S' ρ' σ'.n σ'.tm a → W2 E.w0.heap.size w' S' a.defers → zE w' S' ρ' x v → K (a.put dst v) w' := fun σ' x v w' S' ρ' hk h1 h2 h3 h4 => by
  refine hK _ _ _ hk ⟨S', ρ', ?_, h2.putO dst x v h4, by rw [YM]; exact h3⟩
  cases dst <;> exact h1
 unfold WN at hv
 split at hv
 ·split at hv
  ·rename_i T hT
   have hOT := hO.own f T hT
   refine ⟨hOT.enters, (hOT.sound E _ _ _ _ _ _ _ _ rfl hM hx hv).mono ?_⟩
   rintro e w' ⟨nb', bl', S', ρ', x, rv, rfl, hk, hM', hS, hle, hR⟩
   refine ⟨rv, rfl, hK _ _ _ hk ⟨S', ρ', ?_, (Y3.putO (σ := { σ with nb := nb', bl := bl' }) (hF.mono hS hle) dst x rv hR), by rw [YM]; exact hD.mono hS⟩⟩
   cases dst <;> exact hM'
  ·split at hv
   ·rename_i hs
    obtain ⟨x, h1, h2, h3⟩ := TU hO hs hv
    exact ⟨(h2 trivial).1, XD hF hD (SU hM hx (h2 trivial) h1) fun a' w' hst => hK _ a' w' h3 hst⟩
   ·split at hv
    ·rename_i σ' xs' hc
     split at hv
     ·exact hv.elim
     ·rename_i hno
      obtain ⟨S', ρ', g1, g2, g3, g4⟩ := XO hc hM hF hD hx
      split at hv
      ·rename_i he
       exact sW hO he hv g1 g2 g3 g4 (Xs (by simpa using hno)) hK
      obtain ⟨x, h2, h3⟩ := vE hO hv
      exact ⟨(h2 trivial).1, XD g2 g3 (Vd g1 g4 (Xs (by simpa using hno)) (h2 trivial)) fun a' w' hst => hK _ a' w' h3 hst⟩
    ·exact hv.elim
 ·rename_i hno
  split at hv
  ·rename_i he
   exact sW hO he hv hM hF hD hx (Xs (by simpa using hno)) hK
  split at hv
  ·exact tw hO hv hM hF hD hx fin
  ·obtain ⟨x, h2, h3⟩ := vE hO hv
   exact ⟨(h2 trivial).1, XD hF hD (Vd hM hx (Xs (by simpa using hno)) (h2 trivial)) fun a' w' hst => hK _ a' w' h3 hst⟩
theorem XJ {σ : zh} {a : Act} (hF : Y3 w S ρ σ.n σ.tm a) {x : Operand} (hp : ∀ p ∈ (σ.ev x).gprop, p.holds) : zE w S ρ (σ.sv x) (a.eval x) := (hF.ev x).strip hp
theorem Hl {σ : zh} {o : Oper} {a : Act} {ps : List zN} {x : AV} {K : Act → World → Prop} {Q : Exit → Act → World → Prop} (h : y6 P E.G.objs σ.bl σ.ev o.op = some (ps, x)) (hp : ∀ p ∈ ps, p.holds)
  (hM : Mem E σ.nb σ.bl S ρ w) (hF : Y3 w S ρ σ.n σ.tm a) (hD : W2 E.w0.heap.size w S a.defers) (hK : ∀ a' w', St E (σ.put o.dst x) a' w' → K a' w') : o.wpIn (FW r) n P a w K Q := by
 obtain ⟨v, h1, h2⟩ := SL (e := a.eval) hM h hp fun x _ => hF.ev x
 have hnd : ∀ c, o.op ≠ .defer c := fun c e => by
  rw [e] at h; simp [y6, ZK] at h
 refine vf hnd h1 (hK _ _ ⟨S, ρ, ?_, hF.putO o.dst x v h2, by rw [YM]; exact hD⟩)
 cases o.dst <;> exact hM
theorem Uy {σ σ1 : zh} {X Y x' p' : AV} {a : Act} {u v : Value} (hc : (match Y with | .ap _ _ _ => Vv σ X Y | _ => some (σ, [X, Y])) = some (σ1, [x', p']))
  (hM : Mem E σ.nb σ.bl S ρ w) (hF : Y3 w S ρ σ.n σ.tm a) (hD : W2 E.w0.heap.size w S a.defers) (hxs : ZH w S ρ [X, Y] [u, v]) :
  ∃ S' ρ', Mem E σ1.nb σ1.bl S' ρ' w ∧ Y3 w S' ρ' σ1.n σ1.tm a ∧ W2 E.w0.heap.size w S' a.defers ∧ ZH w S' ρ' [x', p'] [u, v] := by
 split at hc
 ·exact t8 hc hM hF hD hxs
 ·cases hc; exact ⟨S, ρ, hM, hF, hD, hxs⟩
theorem Su (hO : ZY P E.G) (hY : YN P E) {σ : zh} {o : Oper} {a : Act} {k : zh → Prop} {K : Act → World → Prop} {Q : Exit → Act → World → Prop} (hv : JM P E.G σ o k) (hst : St E σ a w)
  (hK : ∀ σ' a' w', k σ' → St E σ' a' w' → K a' w') : o.wpIn (FW r) n P a w K Q := by
 obtain ⟨S, ρ, hM, hF, hD⟩ := hst
 have nd : ∀ {op : Op}, o.op = op → (∀ c, op ≠ .defer c) → ∀ c, o.op ≠ .defer c := fun e h c e' => h c (e ▸ e')
 unfold JM at hv
 split at hv
 ·rename_i elem ho
  split at hv
  ·rename_i σ' x h
   exact Y4 (nd ho (by simp)) (t6 ho hM hF hD h) fun a' w' hs => hK _ a' w' hv hs
  ·exact hv.elim
 ·rename_i t x ho
  split at hv
  ·rename_i σ' y h
   rw [Zo] at hv
   exact Y4 (nd ho (by simp)) (RP ho hM hF hD (XJ hF hv.1) h) fun a' w' hs => hK _ a' w' hv.2 hs
  ·exact hv.elim
 ·rename_i t p x ho
  split at hv
  ·rename_i σ1 x' p' hc
   split at hv
   ·rename_i σ' h
    rw [Zo] at hv
    have h1 := XJ hF fun q hq => hv.1 q (List.mem_append_left _ hq)
    have h2 := XJ hF fun q hq => hv.1 q (List.mem_append_right _ hq)
    have hxs : ZH w S ρ [σ.sv x, σ.sv p] [a.eval x, a.eval p] := ⟨h2, h1, trivial⟩
    obtain ⟨S', ρ', g1, g2, g3, g4⟩ := Uy hc hM hF hD hxs
    exact Y4 (nd ho (by simp)) (Tr ho g1 g2 g3 g4.2.1 g4.1 h) fun a' w' hs => hK _ a' w' hv.2 hs
   ·exact hv.elim
  ·exact hv.elim
 ·rename_i t len parts ho
  split at hv
  ·rename_i σ' x h
   rw [Zo] at hv
   have hl := Yl hF hv.1
   simp only [List.map_map] at hl
   exact Y4 (nd ho (by simp)) (TF ho hM hF hD (fun _ => rfl) hl h) fun a' w' hs => hK _ a' w' hv.2 hs
  split at hv
  ·rename_i σ1 xs hc
   split at hv
   ·rename_i σ' x h
    rw [Zo] at hv
    have hl := Yl hF hv.1
    simp only [List.map_map] at hl
    obtain ⟨S', ρ', g1, g2, g3, g4⟩ := XO hc hM hF hD hl
    exact Y4 (nd ho (by simp)) (x8 ho g1 g2 g3 g4 h) fun a' w' hs => hK _ a' w' hv.2 hs
   ·exact hv.elim
  ·exact hv.elim
 ·rename_i t l c ho
  split at hv
  ·rename_i ps σ' x h
   rw [Zo] at hv
   have h1 := XJ hF fun q hq => hv.1 q (List.mem_append_left _ (List.mem_append_left _ hq))
   have h2 := XJ hF fun q hq => hv.1 q (List.mem_append_left _ (List.mem_append_right _ hq))
   exact Y4 (nd ho (by simp)) (vD ho hM hF hD h1 h2 h fun q hq => hv.1 q (List.mem_append_right _ hq)) fun a' w' hs => hK _ a' w' hv.2 hs
  ·exact hv.elim
 ·rename_i fo args ts ho
  split at hv
  ·rename_i fid nf first nc cap hfn
   rw [Zo] at hv
   obtain ⟨vs, us, hfv, hl⟩ := Q5 hF hfn hv.1
   obtain ⟨he, hc⟩ := Rx hO hv.2 hM hF hD hl hK
   exact vh (nd ho (by simp)) (tK ho hfv he) hc
  ·rename_i p hfn
   split at hv
   ·rename_i T hT
    rw [Zo] at hv
    have h1 : zE w S ρ (.yl p) (a.eval fo) := hfn ▸ XJ hF fun q hq => hv.1 q (List.mem_append_left _ hq)
    have hl := Yl hF fun q hq => hv.1 q (List.mem_append_right _ hq)
    obtain ⟨g, fn, tmps, as, bd, hv1, hrun, hround⟩ := hY.at_ p T hT E _ _ _ _ _ _ _ _ _ rfl (hY.ext hM) hM hl h1 hv.2
    refine Uf (nd ho (by simp)) (sU ho hv1 hrun) ((hround r (n - 1)).mono ?_)
    rintro e w' ⟨nb', bl', S', ρ', x, rv, rfl, hk, hM', hS, hle, hR⟩
    refine ⟨rv, rfl, hK _ _ _ hk ⟨S', ρ', ?_, (Y3.putO (σ := { σ with nb := nb', bl := bl' }) (hF.mono hS hle) o.dst x rv hR), by rw [YM]; exact hD.mono hS⟩⟩
    cases o.dst <;> exact hM'
   ·exact hv.elim
  ·exact hv.elim
 ·rename_i args ts ho
  split at hv
  ·rename_i s x t t' ha ht
   split at hv
   ·rename_i htt
    subst htt
    split at hv
    ·rename_i ps σ' y h
     rw [Zo] at hv
     have h1 := XJ hF fun q hq => hv.1 q (List.mem_append_left _ (List.mem_append_left _ hq))
     have h2 := XJ hF fun q hq => hv.1 q (List.mem_append_left _ (List.mem_append_right _ hq))
     have ho' : o.op = .call { callee := .builtin .append, args := #[s, x], argTypes := #[t, t] } := by
      rw [ho]
      congr 2
      all_goals grind
     exact Y4 (nd ho (by simp)) (Uv ho' hM hF hD h1 h2 h fun q hq => hv.1 q (List.mem_append_right _ hq)) fun a' w' hs => hK _ a' w' hv.2 hs
    ·exact hv.elim
   ·split at hv
    ·rename_i ps σ' y h
     rw [Zo] at hv
     have h1 := XJ hF fun q hq => hv.1 q (List.mem_append_left _ (List.mem_append_left _ hq))
     have h2 := XJ hF fun q hq => hv.1 q (List.mem_append_left _ (List.mem_append_right _ hq))
     have ho' : o.op = .call { callee := .builtin .append, args := #[s, x], argTypes := #[t, t'] } := by
      rw [ho]
      congr 2
      all_goals grind
     exact Y4 (nd ho (by simp)) (Uw ho' hM hF hD h1 h2 h fun q hq => hv.1 q (List.mem_append_right _ hq)) fun a' w' hs => hK _ a' w' hv.2 hs
    ·exact hv.elim
  ·exact hv.elim
 ·split at hv
  ·rename_i ps x h
   rw [Zo] at hv
   exact Hl h hv.1 hM hF hD fun a' w' hs => hK _ a' w' hv.2 hs
  ·exact hv.elim
theorem Y3.skip {σ : zh} {a : Act} {g : Bool} (hF : Y3 w S ρ σ.n σ.tm a) (hg : g = false) (d : Option Tmp) (x : AV) :
  Y3 w S ρ (σ.put d (.gd g x)).n (σ.put d (.gd g x)).tm (a.put d undef) :=
 hF.putO d _ _ (.gd undef (fun h => by rw [hg] at h; cases h) fun _ => rfl)
theorem St.skip {σ : zh} {a : Act} {g : Bool} (hM : Mem E σ.nb σ.bl S ρ w) (hF : Y3 w S ρ σ.n σ.tm a) (hD : W2 E.w0.heap.size w S a.defers) (hg : g = false) (d : Option Tmp) (x : AV) :
  St E (σ.put d (.gd g x)) (a.put d undef) w := by
 refine ⟨S, ρ, ?_, hF.skip hg d x, by rw [YM]; exact hD⟩
 cases d <;> exact hM
theorem V7 (hO : ZY P E.G) {σ : zh} {o : Oper} {a : Act} {g : Bool} {k : zh → Prop} {K : Act → World → Prop} {Q : Exit → Act → World → Prop} (hv : rE P E.G g σ o k) (hst : St E σ a w)
  (hK : ∀ σ' a' w', k σ' → St E σ' a' w' → K a' w') : (g = true → o.wpIn (FW r) n P a w K Q) ∧ (g = false → K (a.put o.dst undef) w) := by
 obtain ⟨S, ρ, hM, hF, hD⟩ := hst
 have wrap : ∀ {x : AV} {v : Value} {w' : World} {S' : Nat → Prop}, g = true → zE w' S' ρ x v → zE w' S' ρ (.gd g x) v := fun hg h => .gd _ (fun _ => h) fun h0 => by rw [hg] at h0; cases h0
 unfold rE at hv
 split at hv
 ·rename_i fo args ts ho
  have nd : ∀ c, o.op ≠ .defer c := fun c e => by rw [ho] at e; cases e
  split at hv
  ·rename_i fid nf first nc cap hfn
   simp only [yi] at hv
   obtain ⟨hp, hv⟩ := hv
   have fin : ∀ {x : AV}, g = true → (∀ {vs : List Value}, ZH w S ρ (Yw nf first (args.toList.map σ.sv) nc cap) vs → Calls P fid vs.toArray w (After E σ.nb σ.bl S ρ w x)) →
     (∀ args w, (callFunc fid args).run P w = .ok (.enter fid args) w) → (∀ a' w', St E (σ.put o.dst (.gd g x)) a' w' → K a' w') → o.wpIn (FW r) n P a w K Q := by
    intro x hg hc he hk
    obtain ⟨vs, us, hfv, hl⟩ := Q5 hF hfn (hp hg)
    refine vh nd (tK ho hfv he) (XD (x := .gd g x) hF hD ((hc hl).mono ?_) hk)
    rintro e w' ⟨rv, S', rfl, h1, h2, h3⟩
    exact ⟨rv, S', rfl, h1, h2, wrap hg h3⟩
   split at hv
   ·split at hv
    ·cases g with
     | false => exact ⟨fun hg => (by cases hg), fun hg => hK _ _ _ hv (St.skip hM hF hD hg o.dst _)⟩
     | true => exact hv.elim
    ·split at hv
     ·rename_i hs
      obtain ⟨x, h1, h2, h3⟩ := TU hO hs hv
      exact ⟨fun hg => fin hg (fun hl => SU hM hl (h2 hg) h1) (h2 hg).1 fun a' w' h => hK _ a' w' h3 h, fun hg => hK _ _ _ h3 (St.skip hM hF hD hg o.dst x)⟩
     ·exact hv.elim
   ·rename_i hno
    unfold Wy at hv
    split at hv
    ·cases g with
     | false => exact ⟨fun hg => (by cases hg), fun hg => hK _ _ _ hv (St.skip hM hF hD hg o.dst _)⟩
     | true => exact hv.elim
    ·obtain ⟨x, h2, h3⟩ := vE hO hv
     exact ⟨fun hg => fin hg (fun hl => Vd hM hl (Xs (by simpa using hno)) (h2 hg)) (h2 hg).1 fun a' w' h => hK _ a' w' h3 h, fun hg => hK _ _ _ h3 (St.skip hM hF hD hg o.dst x)⟩
  ·exact hv.elim
 ·rename_i t len parts ho
  split at hv
  ·exact hv.elim
  ·split at hv
   ·rename_i σ' x h
    obtain ⟨rfl, _⟩ := YJ h
    rw [yi] at hv
    refine ⟨fun hg => ?_, fun hg => hK _ _ _ hv.2 (St.skip hM hF hD hg o.dst x)⟩
    have hl := Yl hF (hv.1 hg)
    simp only [List.map_map] at hl
    obtain ⟨nx, v, w', S', ρ', h1, h2, h3, h4, h5, h6⟩ := x8 ho hM hF hD hl h
    exact Y4 (x := .gd g x) (fun c e => by rw [ho] at e; cases e) ⟨nx, v, w', S', ρ', h1, h2, h3, h4, h5, .gd _ (fun _ => h6) fun h0 => by rw [hg] at h0; cases h0⟩ fun a' w' hs => hK _ a' w' hv.2 hs
   ·exact hv.elim
 ·split at hv
  ·rename_i ps x h
   rw [yi] at hv
   refine ⟨fun hg => ?_, fun hg => hK _ _ _ hv.2 (St.skip hM hF hD hg o.dst x)⟩
   obtain ⟨v, h1, h2⟩ := SL (e := a.eval) hM h (hv.1 hg) fun x _ => hF.ev x
   have hnd : ∀ c, o.op ≠ .defer c := fun c e => by
    rw [e] at h; simp [y6, ZK] at h
   refine vf hnd h1 (hK _ _ _ hv.2 ⟨S, ρ, ?_, hF.putO o.dst _ v (wrap hg h2), by rw [YM]; exact hD⟩)
   cases o.dst <;> exact hM
  ·exact hv.elim
theorem Qi (hO : ZY P E.G) (hY : YN P E) {σ : zh} {o : Oper} {a : Act} {g : Bool} {k : zh → Prop} {K : Act → World → Prop} {Q : Exit → Act → World → Prop} (hv : Ry P E.G g σ o k) (hst : St E σ a w)
  (hK : ∀ σ' a' w', k σ' → St E σ' a' w' → K a' w') : (g = true → o.wpIn (FW r) n P a w K Q) ∧ (g = false → K (a.put o.dst undef) w) := by
 unfold Ry at hv
 split at hv
 ·rename_i fo args ts ho
  have nd : ∀ c, o.op ≠ .defer c := fun c e => by rw [ho] at e; cases e
  split at hv
  ·rename_i fid nf first nc cap hfn
   split at hv
   ·obtain ⟨S, ρ, hM, hF, hD⟩ := hst
    cases g with
    | true =>
     change Yf _ _ at hv
     rw [Zo] at hv
     obtain ⟨hp, hv⟩ := hv
     refine ⟨fun _ => ?_, fun hg => (by cases hg)⟩
     obtain ⟨vs, us, hfv, hl⟩ := Q5 hF hfn hp
     obtain ⟨he, hc⟩ := tw (K := fun v w' => K (a.put o.dst v) w') hO hv hM hF hD hl fun σ' x v w' S' ρ' hk h1 h2 h3 h4 => by
      refine hK _ _ _ hk ⟨S', ρ', ?_, h2.putO o.dst _ v (.gd _ (fun _ => h4) fun h0 => by cases h0), by rw [YM]; exact h3⟩
      cases o.dst <;> exact h1
     exact vh nd (tK ho hfv he) hc
    | false => exact ⟨fun hg => (by cases hg), fun hg => hK _ _ _ hv (St.skip hM hF hD hg o.dst _)⟩
   ·exact V7 hO hv hst hK
  ·rename_i p hfn
   split at hv
   ·rename_i T hT
    obtain ⟨S, ρ, hM, hF, hD⟩ := hst
    cases g with
    | true =>
     change Yf _ _ at hv
     rw [Zo] at hv
     refine ⟨fun _ => ?_, fun hg => (by cases hg)⟩
     have h1 : zE w S ρ (.yl p) (a.eval fo) := hfn ▸ XJ hF fun q hq => hv.1 q (List.mem_append_left _ hq)
     have hl := Yl hF fun q hq => hv.1 q (List.mem_append_right _ hq)
     obtain ⟨g, fn, tmps, as, bd, hv1, hrun, hround⟩ := hY.at_ p T hT E _ _ _ _ _ _ _ _ _ rfl (hY.ext hM) hM hl h1 hv.2
     refine Uf nd (sU ho hv1 hrun) ((hround r (n - 1)).mono ?_)
     rintro e w' ⟨nb', bl', S', ρ', x, rv, rfl, hk, hM', hS, hle, hR⟩
     refine ⟨rv, rfl, hK _ _ _ hk ⟨S', ρ', ?_, (Y3.putO (σ := { σ with nb := nb', bl := bl' }) (hF.mono hS hle) o.dst _ rv (.gd _ (fun _ => hR) fun h0 => by cases h0)), by rw [YM]; exact hD.mono hS⟩⟩
     cases o.dst <;> exact hM'
    | false => exact ⟨fun hg => (by cases hg), fun hg => hK _ _ _ hv (St.skip hM hF hD hg o.dst _)⟩
   ·exact hv.elim
  ·exact V7 hO hv hst hK
 ·exact V7 hO hv hst hK
theorem TY (hO : ZY P E.G) (hY : YN P E) {σ : zh} {o : Oper} {a : Act} {g : Bool} {k : zh → Prop} {K : Act → World → Prop} {Q : Exit → Act → World → Prop}
  (hv : match E.G.conc && !g with | true => k (σ.put o.dst (.gd false (UC P o.type))) | false => Ry P E.G g σ o k) (hst : St E σ a w)
  (hK : ∀ σ' a' w', k σ' → St E σ' a' w' → K a' w') : (g = true → o.wpIn (FW r) n P a w K Q) ∧ (g = false → K (a.put o.dst undef) w) := by
 cases hc : E.G.conc && !g with
 | false => rw [hc] at hv; exact Qi hO hY hv hst hK
 | true =>
  rw [hc] at hv
  simp only [Bool.and_eq_true, Bool.not_eq_true'] at hc
  obtain ⟨S, ρ, hM, hF, hD⟩ := hst
  have hg := hc.2
  subst hg
  exact ⟨fun hg => (by cases hg), fun hg => hK _ _ _ hv (St.skip hM hF hD rfl o.dst _)⟩
theorem uG (hO : ZY P E.G) (hY : YN P E) {ops : List Oper} {Q : Exit → Act → World → Prop} : ∀ (rest : List Oper) (i : Nat) {σ : zh} {a : Act} {w : World} {k : zh → Prop}, (∀ j, rest[j]? = ops[i + j]?) → ub P E.G ops rest σ k → St E σ a w →
  (∀ σ' a' w', k σ' → St E σ' a' w' → Q .normal a' w') → wpOpsIn (FW r) n P ops.toArray Q (List.range' i rest.length) a w
 | [], i, σ, a, w, k, _, hv, hst, hK => hK _ _ _ hv hst
 | o :: rest, i, σ, a, w, k, hi, hv, hst, hK => by
  have h0 : ops[i]? = some o := by simpa using (hi 0).symm
  have hrest : ∀ j, rest[j]? = ops[i + 1 + j]? := fun j => by
   have := hi (j + 1)
   grind
  have key : ∀ σ' a' w', ub P E.G ops rest σ' k → St E σ' a' w' → wpOpsIn (FW r) n P ops.toArray Q (List.range' (i + 1) rest.length) a' w' :=
   fun σ' a' w' hv' hst' => uG hO hY rest (i + 1) hrest hv' hst' hK
  simp only [List.length_cons, List.range'_succ, wpOpsIn, List.getElem?_toArray, h0]
  simp only [ub, T5] at hv
  cases hg : o.guard with
  | none =>
   rw [hg] at hv
   simp only [Region.wanted, hg, if_true]
   exact Su hO hY hv hst key
  | some jw =>
   obtain ⟨j, want⟩ := jw
   rw [hg] at hv
   simp only at hv
   split at hv
   ·rename_i g hga
    have hw : Region.wanted o (yielded ops.toArray a.tmps) = g := by
     obtain ⟨S, ρ, _, hF, _⟩ := hst
     simp only [Region.wanted, hg]
     exact ua hga hF
    obtain ⟨h1, h2⟩ := TY (r := r) (n := n) (Q := Q) hO hY hv hst key
    rw [hw]
    cases g with
    | true => simp_all
    | false => rw [if_neg (by simp)]; exact ⟨fun _ _ => trivial, h2 rfl⟩
   ·exact hv.elim
theorem rW (hO : ZY P E.G) (hY : YN P E) {id : Nat} {ops : Array Oper} {σ : zh} {a : Act} {k : zh → Prop} {Q : Exit → Act → World → Prop} (hv : ub P E.G ops.toList ops.toList σ k) (hst : St E σ a w)
  (hK : ∀ σ' a' w', k σ' → St E σ' a' w' → Q .normal a' w') : (Code.region id ops false).wpIn (FW r) n P Q a w := by
 refine wpIn_region ?_
 rw [List.range_eq_range', ← Array.length_toList]
 have := uG hO hY (r := r) (n := n) (Q := Q) ops.toList 0 (by simp) hv hst hK
 omega
end
end Go.Sx
