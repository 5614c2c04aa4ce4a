/- The verification condition of one operation, of a region carried out in order. -/
import Derived.Test.YtdkpceodckdcfaaGreatDoorSxJ
import Derived.TacticsIn
set_option linter.unusedSimpArgs false
set_option linter.unusedVariables false
namespace Go.Sx
open Go Go.RowKit
def xi (ex : TypeId → (AV → Prop) → Prop) : List TypeId → (List AV → Prop) → Prop
 | [], k => k []
 | t :: ts, k => ex t fun v => xi ex ts fun vs => k (v :: vs)
def w6 (P : Program) : Nat → TypeId → (AV → Prop) → Prop
 | 0, _, k => ∃ r, k r
 | n + 1, t, k =>
  match P.underlying t with
  | some (.int kd) => ∃ x : Int, k (.v (.int kd x))
  | some .bool => ∃ x : Bool, k (.v (.bool x))
  | some .string => ∃ l : List UInt8, k (.str l)
  | some (.slice _) => ∃ (f : Bool) (sz len : Nat) (els : Nat → Nat → AV), k (.xl f sz len els)
  | some (.tuple ts) => xi (w6 P n) ts.toList fun vs => k (.tup vs.length (zU vs))
  | _ => ∃ r, k r
theorem wL {ex : TypeId → (AV → Prop) → Prop} (hex : ∀ t k, ex t k → ∃ r, k r) : ∀ (ts : List TypeId) (k : List AV → Prop), xi ex ts k → ∃ vs, k vs
 | [], k, h => ⟨[], h⟩
 | t :: ts, k, h => by
  obtain ⟨v, hv⟩ := hex t _ h
  obtain ⟨vs, hvs⟩ := wL hex ts _ hv
  exact ⟨v :: vs, hvs⟩
theorem v7 {P : Program} : ∀ (n : Nat) (t : TypeId) (k : AV → Prop), w6 P n t k → ∃ r, k r
 | 0, t, k, h => h
 | n + 1, t, k, h => by
  unfold w6 at h
  split at h
  ·obtain ⟨x, hx⟩ := h; exact ⟨_, hx⟩
  ·obtain ⟨x, hx⟩ := h; exact ⟨_, hx⟩
  ·obtain ⟨x, hx⟩ := h; exact ⟨_, hx⟩
  ·obtain ⟨f, sz, len, els, hx⟩ := h; exact ⟨_, hx⟩
  ·obtain ⟨vs, hvs⟩ := wL (v7 n) _ _ h
   exact ⟨_, hvs⟩
  ·exact h
def TE (P : Program) : Nat → TypeId → Bool
 | 0, _ => false
 | n + 1, t =>
  match P.underlying t with
  | some (.int _) | some .bool | some .string => true
  | some (.tuple ts) => ts.toList.all (TE P n)
  | _ => false
theorem wk {ex : TypeId → (AV → Prop) → Prop} {sc : TypeId → Bool} (hex : ∀ t k, sc t = true → ex t k → ∃ r, r.scalar = true ∧ k r) :
  ∀ (ts : List TypeId) (k : List AV → Prop), ts.all sc = true → xi ex ts k → ∃ vs : List AV, (∀ v ∈ vs, v.scalar = true) ∧ k vs
 | [], k, _, h => ⟨[], fun _ hv => (by cases hv), h⟩
 | t :: ts, k, hs, h => by
  simp only [List.all_cons, Bool.and_eq_true] at hs
  obtain ⟨v, h1, hv⟩ := hex t _ hs.1 h
  obtain ⟨vs, h2, hvs⟩ := wk hex ts _ hs.2 hv
  refine ⟨v :: vs, fun x hx => ?_, hvs⟩
  rcases List.mem_cons.1 hx with e | e
  ·rw [e]; exact h1
  ·exact h2 x e
theorem qX {f : Nat → Bool} {n : Nat} (h : ∀ i, i < n → f i = false) : WT f n = false := by
 induction n with
 | zero => rfl
 | succ n ih => simp only [WT, Bool.or_eq_false_iff]; exact ⟨ih fun i hi => h i (by omega), h n (by omega)⟩
theorem ve {P : Program} : ∀ (n : Nat) (t : TypeId) (k : AV → Prop), TE P n t = true → w6 P n t k → ∃ r : AV, r.scalar = true ∧ k r
 | 0, t, k, hs, h => by cases hs
 | n + 1, t, k, hs, h => by
  unfold TE at hs
  unfold w6 at h
  split at hs
  ·rename_i kd hu
   rw [hu] at h
   obtain ⟨x, hx⟩ := h; exact ⟨_, rfl, hx⟩
  ·rename_i hu
   rw [hu] at h
   obtain ⟨x, hx⟩ := h; exact ⟨_, rfl, hx⟩
  ·rename_i hu
   rw [hu] at h
   obtain ⟨x, hx⟩ := h; exact ⟨_, rfl, hx⟩
  ·rename_i ts hu
   rw [hu] at h
   obtain ⟨vs, h1, hvs⟩ := wk (ve n) _ _ hs h
   refine ⟨_, ?_, hvs⟩
   simp only [AV.scalar, Bool.not_eq_true']
   refine qX fun i hi => ?_
   simp only [zU, List.getElem?_eq_getElem hi, Option.getD_some, Bool.not_eq_false']
   exact h1 _ (List.getElem_mem hi)
  ·cases hs
def zy (want t : Bool) : Bool := bif want then t else !t
def Zg (ops : List Oper) (σ : zw) (j : Nat) (want : Bool) : Option Bool :=
 match ops[j]? with
 | some o =>
  match o.dst with
  | some d =>
   if d < σ.n then
    match σ.tm d with
    | .v (.bool t) => some (zy want t)
    | .gd g (.v (.bool t)) => some (g && zy want t)
    | _ => none
   else none
  | none => none
 | none => none
theorem uG (want t : Bool) : ((some t : Option Bool) == some want) = zy want t := by cases want <;> cases t <;> rfl
theorem we {ops : List Oper} {σ : zw} {j : Nat} {want g : Bool} {w : World} {S : Nat → Prop} {ρ : Nat → Own} {a : Act} (h : Zg ops σ j want = some g)
  (hF : yU w S ρ σ.n σ.tm a) : (yielded ops.toArray a.tmps j == some want) = g := by
 unfold Zg at h
 split at h
 ·rename_i o ho
  split at h
  ·rename_i d hd
   split at h
   ·rename_i hlt
    have hr := hF.2 d hlt
    have hy : yielded ops.toArray a.tmps j = match a.tmps.getD d undef with | .bool b => some b | _ => none := by
     unfold yielded
     have hsz : d < a.tmps.size := by rw [hF.1]; exact hlt
     simp only [List.getElem?_toArray, ho, Option.bind_some, hd, Array.getD_eq_getD_getElem?, Array.getElem?_eq_getElem hsz, Option.getD_some]
     cases a.tmps[d] <;> rfl
    split at h
    ·rename_i t ht
     cases h
     rw [ht] at hr
     rw [hy, zi hr]
     exact uG want t
    ·rename_i g0 t ht
     cases h
     rw [ht] at hr
     cases hr with
     | gd v h1 h2 =>
      cases g0 with
      | true =>
       rw [hy, zi (h1 rfl)]
       exact uG want t
      | false =>
       rw [hy, h2 rfl]
       rfl
    ·cases h
   ·cases h
  ·cases h
 ·cases h
def AV.refs : AV → List Nat
 | .np k _ | .ns k _ _ | .ap k _ _ | .ps k _ => [k]
 | .agg n cs => (List.range n).flatMap fun i => (cs i).refs
 | .tup n cs => (List.range n).flatMap fun i => (cs i).refs
 | .fn _ nf f nc c => ((List.range nf).flatMap fun i => (f i).refs) ++ (List.range nc).flatMap fun i => (c i).refs
 | .gd _ x => x.refs
 | _ => []
def Ui (bl : Nat → OB) (x : AV) : List Nat :=
 x.refs.flatMap fun k => (match bl k with
  | .box _ n cells => (List.range n).flatMap fun i => (cells i).refs
  | _ => []) ++ [k]
def WC : List Nat → zw → List AV → Option (zw × List AV)
 | [], σ, xs => some (σ, xs)
 | k :: ks, σ, xs => if k < σ.nb then WC ks (σ.frz k) (xs.map fun x => x.frz σ.bl k) else none
def yq (σ : zw) (xs : List AV) : Option (zw × List AV) :=
 if xs.any AV.hasOwn then WC (xs.flatMap (Ui σ.bl)) σ xs else some (σ, xs)
def Xh (σ : zw) (x p : AV) : Option (zw × List AV) :=
 if x.hasOwn then WC (Ui σ.bl x) σ [x, p] else some (σ, [x, p])
def ZM (nf : Nat) (first : Nat → AV) (args : List AV) (nc : Nat) (cap : Nat → AV) : List AV :=
 (List.range nf).map first ++ args ++ (List.range nc).map cap
def Uf (g : Bool) (ps : List zS) (k : Prop) : Prop := Zl (ps.map fun p => p.under g) k
def gT : Option Bool → Prop
 | none => True
 | some g => g = true
def rz (g : Option Bool) (ps : List zS) (k : Prop) : Prop :=
 match g with
 | none => Zl ps k
 | some g => Uf g ps k
def pD (P : Program) (G : Cx) (g : Option Bool) (f : FuncId) (xs : List AV) (r : AV) : Prop :=
 match g with
 | none => zW P G.objs f xs r
 | some g => g = true → zW P G.objs f xs r
def y4 (P : Program) (G : Cx) (g : Option Bool) (f : FuncId) (xs : List AV) (t : TypeId) (K : AV → Prop) : Prop :=
 match G.pu f xs with
 | some (ps, r) => rz g ps (K r)
 | none => w6 P 3 t fun r => pD P G g f xs r ∧ K r
def xn (P : Program) (G : Cx) (f : FuncId) (xs : List AV) (t : TypeId) : Bool :=
 match G.pu f xs with
 | some (_, r) => r.scalar
 | none => TE P 3 t
def inl (G : Cx) (f : FuncId) (xs : List AV) : Bool := (G.own f).isSome && (G.pu f xs).isNone
def wO (P : Program) (t : TypeId) : AV :=
 match P.info? t with
 | some it => (match it.zero with
  | some z => bif Nat.beq z.cells.size 1 then .v (z.cells.getD 0 undef) else .junk
  | none => .junk)
 | none => .junk
def xY (P : Program) (G : Cx) (g : Option Bool) (f : FuncId) (xs : List AV) (t : TypeId) (K : AV → Prop) : Prop :=
 match inl G f xs with
 | true => (match g with | some false => K (wO P t) | _ => zb f)
 | false => y4 P G g f xs t K
def XR (G : Cx) (σ : zw) (f : FuncId) (xs : List AV) (k : zw → AV → Prop) : Prop :=
 match G.own f with
 | some T => T σ.nb σ.bl xs fun nb' bl' r => k { σ with nb := nb', bl := bl' } r
 | none => zb f
def yR (G : Cx) (σ : zw) (f : FuncId) (xs : List AV) : Option (List zS × zw × AV) :=
 match G.fre f xs with
 | some (ps, t, sz, len, els) => some (ps, σ.add (.arr t sz len els), .ns σ.nb 0 len)
 | none => none
def rY : OB → Bool
 | .app .. => true
 | _ => false
def SI (bl : Nat → OB) (xs : List AV) : Bool := xs.any fun x => match x with | .ns k _ _ => rY (bl k) | _ => false
def xF (P : Program) (G : Cx) (σ : zw) (f : FuncId) (xs : List AV) (t : TypeId) (dst : Option Tmp) (k : zw → Prop) : Prop :=
 if xs.any AV.hasOwn then
  match G.own f with
  | some T => T σ.nb σ.bl xs fun nb' bl' r => k (({ σ with nb := nb', bl := bl' } : zw).put dst r)
  | none =>
   match SI σ.bl xs, G.fre f (xs.map (lend σ.bl)) with
   | true, some (ps, te, sz, len, els) => Zl (ps ++ [.p (∀ i j, i < len → j < sz → (els i j).scalar = true)]) (k ((σ.add (.arr te sz len els)).put dst (.ns σ.nb 0 len)))
   | _, _ =>
   if xn P G f (xs.map (lend σ.bl)) t then y4 P G none f (xs.map (lend σ.bl)) t fun r => k (σ.put dst r)
   else
    match yq σ xs with
    | some (σ', xs') =>
     if xs'.any AV.hasOwn then zb f
     else
      match yR G σ' f xs' with
      | some (ps, σ1, r) => Zl ps (k (σ1.put dst r))
      | none => y4 P G none f xs' t fun r => k (σ'.put dst r)
    | none => zb f
 else
  match yR G σ f xs with
  | some (ps, σ1, r) => Zl ps (k (σ1.put dst r))
  | none =>
   match inl G f xs with
   | true => XR G σ f xs fun σ' r => k (σ'.put dst r)
   | false => y4 P G none f xs t fun r => k (σ.put dst r)
def za (σ : zw) (l : List Operand) : List zS := l.flatMap fun x => (σ.ev x).gprop
def zw.sv (σ : zw) (x : Operand) : AV := (σ.ev x).strip
def qb (P : Program) (G : Cx) (σ : zw) (o : Oper) (k : zw → Prop) : Prop :=
 match o.op with
 | .alloc elem =>
  match yF P σ elem with
  | some (σ', r) => k (σ'.put o.dst r)
  | none => zb o
 | .box t x =>
  match xR σ t (σ.sv x) with
  | some (σ', r) => Zl (σ.ev x).gprop (k (σ'.put o.dst r))
  | none => zb o
 | .store t p x =>
  match (match σ.sv p with | .ap k i j => (bif Ub σ.bl (.ap k i j) then some (σ, [σ.sv x, σ.sv p]) else Xh σ (σ.sv x) (σ.sv p)) | _ => some (σ, [σ.sv x, σ.sv p])) with
  | some (σ1, [x', p']) =>
   match WE P σ1 t p' x' with
   | some σ' => Zl ((σ.ev p).gprop ++ (σ.ev x).gprop) (k (σ'.put o.dst .junk))
   | none =>
    match ws P σ1 t p' x' with
    | some (ps, σ') => Zl ((σ.ev p).gprop ++ (σ.ev x).gprop ++ ps) (k (σ'.put o.dst .junk))
    | none => zb o
  | _ => zb o
 | .buildSlice t len parts =>
  match Xb P σ t len (parts.toList.map (·.1)) (parts.toList.map (·.2)) (parts.toList.map fun p => σ.sv p.2) with
  | some (σ', r) => Zl (za σ (parts.toList.map (·.2))) (k (σ'.put o.dst r))
  | none =>
  match yq σ (parts.toList.map fun p => σ.sv p.2) with
  | some (σ1, xs) =>
   match zG P σ1 t len (parts.toList.map (·.1)) xs with
   | some (σ', r) => Zl (za σ (parts.toList.map (·.2))) (k (σ'.put o.dst r))
   | none => zb o
  | none => zb o
 | .makeSlice t l c =>
  match ZS P σ t (σ.sv l) (σ.sv c) with
  | some (ps, σ', r) => Zl ((σ.ev l).gprop ++ (σ.ev c).gprop ++ ps) (k (σ'.put o.dst r))
  | none => zb o
 | .call { callee := .value f, args, .. } =>
  match σ.sv f with
  | .fn (.func fid) nf first nc cap =>
   Zl ((σ.ev f).gprop ++ za σ args.toList) (xF P G σ fid (ZM nf first (args.toList.map σ.sv) nc cap) o.type o.dst k)
  | .yl p =>
   match G.yld p with
   | some T => Zl ((σ.ev f).gprop ++ za σ args.toList) (T σ.nb σ.bl (args.toList.map σ.sv) fun nb' bl' r => k (({ σ with nb := nb', bl := bl' } : zw).put o.dst r))
   | none => zb o
  | _ => zb o
 | .call { callee := .builtin .append, args, argTypes } =>
  match args.toList, argTypes.toList with
  | [s, x], [t, t'] =>
   if t = t' then
    match ZJ P σ t (σ.sv s) (σ.sv x) with
    | some (ps, σ', r) => Zl ((σ.ev s).gprop ++ (σ.ev x).gprop ++ ps) (k (σ'.put o.dst r))
    | none =>
     match ZC P σ t (σ.sv s) (σ.sv x) with
     | some (ps, σ', r) => Zl ((σ.ev s).gprop ++ (σ.ev x).gprop ++ ps) (k (σ'.put o.dst r))
     | none => zb o
   else
    match wX P σ t t' (σ.sv s) (σ.sv x) with
    | some (ps, σ', r) => Zl ((σ.ev s).gprop ++ (σ.ev x).gprop ++ ps) (k (σ'.put o.dst r))
    | none => zb o
  | _, _ => zb o
 | op =>
  match ZN P σ.bl σ.ev op with
  | some (ps, r) => Zl ps (k (σ.put o.dst r))
  | none => zb o
def V6 (P : Program) (G : Cx) (g : Bool) (σ : zw) (o : Oper) (k : zw → Prop) : Prop :=
 match o.op with
 | .call { callee := .value f, args, .. } =>
  match σ.sv f with
  | .fn (.func fid) nf first nc cap =>
   Uf g ((σ.ev f).gprop ++ za σ args.toList) <|
    if (ZM nf first (args.toList.map σ.sv) nc cap).any AV.hasOwn then
     match inl G fid (ZM nf first (args.toList.map σ.sv) nc cap) with
     | true => (match g with | false => k (σ.put o.dst (.gd g (wO P o.type))) | true => zb o)
     | false => if xn P G fid ((ZM nf first (args.toList.map σ.sv) nc cap).map (lend σ.bl)) o.type then y4 P G (some g) fid ((ZM nf first (args.toList.map σ.sv) nc cap).map (lend σ.bl)) o.type fun r => k (σ.put o.dst (.gd g r)) else zb o
    else xY P G (some g) fid (ZM nf first (args.toList.map σ.sv) nc cap) o.type fun r => k (σ.put o.dst (.gd g r))
  | _ => zb o
 | .buildSlice t len parts =>
  if ((parts.toList.map fun p => σ.sv p.2).any AV.hasOwn || wz (parts.toList.map (·.2))) = true then zb o
  else
   match zG P σ t len (parts.toList.map (·.1)) (parts.toList.map fun p => σ.sv p.2) with
   | some (_, r) => Uf g (za σ (parts.toList.map (·.2))) (k (σ.put o.dst (.gd g r)))
   | none => zb o
 | op =>
  match ZN P σ.bl σ.ev op with
  | some (ps, r) => Uf g ps (k (σ.put o.dst (.gd g r)))
  | none => zb o
def zz (t : Bool) (A B : Prop) : Prop :=
 match t with
 | true => A
 | false => B
theorem zT {t : Bool} {A B : Prop} : zz t A B ↔ (t = true → A) ∧ (t = false → B) := by
 cases t <;> simp [zz]
def V2 (P : Program) (G : Cx) (g : Bool) (σ : zw) (o : Oper) (k : zw → Prop) : Prop :=
 match o.op with
 | .call { callee := .value f, args, .. } =>
  match σ.sv f with
  | .fn (.func fid) nf first nc cap =>
   match inl G fid (ZM nf first (args.toList.map σ.sv) nc cap) with
   | true => zz g (Zl ((σ.ev f).gprop ++ za σ args.toList) (XR G σ fid (ZM nf first (args.toList.map σ.sv) nc cap) fun σ' r => k (σ'.put o.dst (.gd true r)))) (k (σ.put o.dst (.gd false (wO P o.type))))
   | false => V6 P G g σ o k
  | .yl p =>
   match G.yld p with
   | some T => zz g (Zl ((σ.ev f).gprop ++ za σ args.toList) (T σ.nb σ.bl (args.toList.map σ.sv) fun nb' bl' r => k (({ σ with nb := nb', bl := bl' } : zw).put o.dst (.gd true r)))) (k (σ.put o.dst (.gd false (.v (.bool false)))))
   | none => zb o
  | _ => V6 P G g σ o k
 | _ => V6 P G g σ o k
def vG (P : Program) (G : Cx) (ops : List Oper) (o : Oper) (σ : zw) (k : zw → Prop) : Prop :=
 match o.guard with
 | none => qb P G σ o k
 | some (j, want) =>
  match Zg ops σ j want with
  | some g =>
   match G.conc && !g with
   | true => k (σ.put o.dst (.gd false (wO P o.type)))
   | false => V2 P G g σ o k
  | none => zb o
def wj (P : Program) (G : Cx) (ops : List Oper) : List Oper → zw → (zw → Prop) → Prop
 | [], σ, k => k σ
 | o :: rest, σ, k => vG P G ops o σ fun σ' => wj P G ops rest σ' k
end Go.Sx

namespace Go.Sx
open Go Go.RowKit
def FW (r : Option Nat) : Fence := { Fence.wide with round := r }
theorem Ye {r : Option Nat} {n : Nat} {P : Program} {f : FuncId} {args : Array Value} {w : World} {R : Ending → World → Prop} :
  CallsIn (FW r) n P f args w R ↔ Calls P f args w R := callsIn_wide (n := n)
section
variable {P : Program} {E : Env} {S : Nat → Prop} {ρ : Nat → Own} {w : World} {r : Option Nat} {n : Nat}
theorem Xm {o : Oper} {a : Act} {K : Act → World → Prop} {Q : Exit → Act → World → Prop} {v : Value} {w' : World} (hnd : ∀ c, o.op ≠ .defer c)
  (hrun : (execOp a.eval o).run P w = .ok (.value v) w') (h : K (a.put o.dst v) w') : o.wpIn (FW r) n P a w K Q := by
 refine ⟨fun _ _ => trivial, ?_⟩
 rw [Oper.semAt_eq _ _ _ hnd, hrun]
 exact h
theorem U8 {o : Oper} {a : Act} {K : Act → World → Prop} {Q : Exit → Act → World → Prop} {w' : World} (hnd : ∀ c, o.op ≠ .defer c)
  (hrun : (execOp a.eval o).run P w = .ok .skip w') (h : K (a.put o.dst undef) w') : o.wpIn (FW r) n P a w K Q := by
 refine ⟨fun _ _ => trivial, ?_⟩
 rw [Oper.semAt_eq _ _ _ hnd, hrun]
 exact h
theorem XQ {o : Oper} {a : Act} {K : Act → World → Prop} {Q : Exit → Act → World → Prop} {f : FuncId} {args : Array Value} (hnd : ∀ c, o.op ≠ .defer c)
  (hrun : (execOp a.eval o).run P w = .ok (.enter f args) w) (h : Calls P f args w fun e w' => ∃ v, e = .returned v ∧ K (a.put o.dst v) w') : o.wpIn (FW r) n P a w K Q := by
 refine ⟨fun _ _ => trivial, ?_⟩
 rw [Oper.semAt_eq _ _ _ hnd, hrun]
 refine ⟨(fun h => by cases h), Ye.2 (h.mono ?_)⟩
 rintro e w' ⟨v, rfl, hk⟩
 exact hk
theorem ZE {o : Oper} {a : Act} {K : Act → World → Prop} {Q : Exit → Act → World → Prop} {σ' : zw} {x : AV} (hnd : ∀ c, o.op ≠ .defer c) (h : Eff P E a.eval o a w σ' x)
  (hK : ∀ a' w', St E (σ'.put o.dst x) a' w' → K a' w') : o.wpIn (FW r) n P a w K Q := by
 obtain ⟨nx, v, w', S', ρ', hrun, hnx, hM, hF, hD, hR⟩ := h
 have hst : St E (σ'.put o.dst x) (a.put o.dst v) w' := by
  refine ⟨S', ρ', ?_, hF.putO o.dst x v hR, by rw [ZB]; exact hD⟩
  cases o.dst <;> exact hM
 rcases hnx with rfl | ⟨rfl, rfl⟩
 ·exact Xm hnd hrun (hK _ _ hst)
 ·exact U8 hnd hrun (hK _ _ hst)
theorem Wo {o : Oper} {a : Act} {K : Act → World → Prop} {Q : Exit → Act → World → Prop} {l : Nat} {f : FuncId} {tmps : Array Value} {as bd : Code} (hnd : ∀ c, o.op ≠ .defer c)
  (hrun : (execOp a.eval o).run P w = .ok (.round l f tmps as bd) w) (h : RoundIn (FW r) (n - 1) P l f tmps as bd w fun e w' => ∃ v, e = .returned v ∧ K (a.put o.dst v) w') : o.wpIn (FW r) n P a w K Q := by
 refine ⟨fun _ _ => trivial, ?_⟩
 rw [Oper.semAt_eq _ _ _ hnd, hrun]
 refine ⟨(fun h => by cases h), h.mono ?_⟩
 rintro e w' ⟨v, rfl, hk⟩
 exact hk
theorem Vk {o : Oper} {fo : Operand} {args : Array Operand} {ts : Array TypeId} {e : Operand → Value} {g : Nat} {fn : FuncId} {tmps : Array Value} {as bd : Code}
  (ho : o.op = .call { callee := .value fo, args, argTypes := ts }) (hf : e fo = .func (.yield g) #[] #[]) (he : (Instr.yield g (args.toList.map e).toArray).run P w = .ok (.round g fn tmps as bd) w) :
  (execOp e o).run P w = .ok (.round g fn tmps as bd) w := by
 simp only [execOp, ho, resolve, hf, Deferred.ofValue, Sem.run_bind, Sem.run_pure, Result.andThen_ok, invoke]
 rw [← he]
 congr 2
 apply Array.ext'
 simp
theorem ze.frz {bl : Nat → OB} {k : Nat} {S' : Nat → Prop} {ρ' : Nat → Own} {xs : List AV} {vs : List Value} (h : ze w S ρ xs vs)
  (hh : ∀ x v, zr w S ρ x v → zr w S' ρ' (x.frz bl k) v) : ze w S' ρ' (xs.map fun x => x.frz bl k) vs := by
 induction xs generalizing vs with
 | nil => cases vs <;> exact h
 | cons x xs ih => cases vs with
  | nil => exact h.elim
  | cons v vs => exact ⟨hh _ _ h.1, ih h.2⟩
theorem XA {ks : List Nat} {σ σ' : zw} {xs xs' : List AV} {vs : List Value} {a : Act} (h : WC ks σ xs = some (σ', xs')) (hM : zI E σ.nb σ.bl S ρ w) (hF : yU w S ρ σ.n σ.tm a)
  (hD : xS E.w0.heap.size w S a.defers) (hx : ze w S ρ xs vs) :
  ∃ S' ρ', zI E σ'.nb σ'.bl S' ρ' w ∧ yU w S' ρ' σ'.n σ'.tm a ∧ xS E.w0.heap.size w S' a.defers ∧ ze w S' ρ' xs' vs := by
 induction ks generalizing σ xs S ρ with
 | nil => cases h; exact ⟨S, ρ, hM, hF, hD, hx⟩
 | cons k ks ih =>
  simp only [WC] at h
  split at h
  ·rename_i hk
   obtain ⟨S', h1, h2, h3, h4⟩ := sJ hM hF hk
   exact ih h h1 h2 (hD.mono fun b hb => ⟨h3 b hb, rfl⟩) (hx.frz h4)
  ·cases h
theorem YR {σ σ' : zw} {xs xs' : List AV} {vs : List Value} {a : Act} (h : yq σ xs = some (σ', xs')) (hM : zI E σ.nb σ.bl S ρ w) (hF : yU w S ρ σ.n σ.tm a)
  (hD : xS E.w0.heap.size w S a.defers) (hx : ze w S ρ xs vs) :
  ∃ S' ρ', zI E σ'.nb σ'.bl S' ρ' w ∧ yU w S' ρ' σ'.n σ'.tm a ∧ xS E.w0.heap.size w S' a.defers ∧ ze w S' ρ' xs' vs := by
 unfold yq at h
 split at h
 ·exact XA h hM hF hD hx
 ·cases h; exact ⟨S, ρ, hM, hF, hD, hx⟩
theorem vz {σ σ' : zw} {x p : AV} {xs' : List AV} {vs : List Value} {a : Act} (h : Xh σ x p = some (σ', xs')) (hM : zI E σ.nb σ.bl S ρ w) (hF : yU w S ρ σ.n σ.tm a)
  (hD : xS E.w0.heap.size w S a.defers) (hx : ze w S ρ [x, p] vs) :
  ∃ S' ρ', zI E σ'.nb σ'.bl S' ρ' w ∧ yU w S' ρ' σ'.n σ'.tm a ∧ xS E.w0.heap.size w S' a.defers ∧ ze w S' ρ' xs' vs := by
 unfold Xh at h
 split at h
 ·exact XA h hM hF hD hx
 ·cases h; exact ⟨S, ρ, hM, hF, hD, hx⟩
structure tM (P : Program) (objs : List (Nat × Obj)) (f : FuncId) (T : Nat → (Nat → OB) → List AV → (Nat → (Nat → OB) → AV → Prop) → Prop) : Prop where
 enters : ∀ args w, (callFunc f args).run P w = .ok (.enter f args) w
 mono : ∀ nb bl xs (k k' : Nat → (Nat → OB) → AV → Prop), (∀ nb bl x, k nb bl x → k' nb bl x) → T nb bl xs k → T nb bl xs k'
 sound : ∀ (E : Env) nb bl S ρ w xs vs k, E.G.objs = objs → zI E nb bl S ρ w → ze w S ρ xs vs → T nb bl xs k →
  Calls P f vs.toArray w fun e w' => ∃ nb' bl' S' ρ' x rv, e = .returned rv ∧ k nb' bl' x ∧ zI E nb' bl' S' ρ' w' ∧ (∀ b, S b → S' b ∧ w'.heap[b]? = w.heap[b]?) ∧ zX ρ ρ' ∧ zr w' S' ρ' x rv
structure zO (P : Program) (G : Cx) : Prop where
 own : ∀ f T, G.own f = some T → tM P G.objs f T
 pu : ∀ f xs ps r, G.pu f xs = some (ps, r) → (∀ p ∈ ps, p.holds) → zW P G.objs f xs r
 fre : ∀ f xs ps t sz len els, G.fre f xs = some (ps, t, sz, len, els) → (∀ p ∈ ps, p.holds) → ZP P G.objs f xs t sz len els
 mono : ∀ p T, G.yld p = some T → ∀ nb bl xs (k k' : Nat → (Nat → OB) → AV → Prop), (∀ nb bl x, k nb bl x → k' nb bl x) → T nb bl xs k → T nb bl xs k'
def Rb (E : Env) (S : Nat → Prop) (ρ : Nat → Own) (w : World) (k : Nat → (Nat → OB) → AV → Prop) (e : Ending) (w' : World) : Prop :=
 ∃ nb' bl' S' ρ' x rv, e = .returned rv ∧ k nb' bl' x ∧ zI E nb' bl' S' ρ' w' ∧ (∀ b, S b → S' b ∧ w'.heap[b]? = w.heap[b]?) ∧ zX ρ ρ' ∧ zr w' S' ρ' x rv
structure Qh (w0 : World) (S0 : Nat → Prop) (ρ0 : Nat → Own) (w : World) (S : Nat → Prop) (ρ : Nat → Own) : Prop where
 S : ∀ b, S0 b → S b ∧ w.heap[b]? = w0.heap[b]?
 le : zX ρ0 ρ
def vf (P : Program) (objs : List (Nat × Obj)) (p : Nat) (T : Nat → (Nat → OB) → List AV → (Nat → (Nat → OB) → AV → Prop) → Prop) (w0 : World) (S0 : Nat → Prop) (ρ0 : Nat → Own) : Prop :=
 ∀ (E : Env) nb bl S ρ w xs vs k v, E.G.objs = objs → Qh w0 S0 ρ0 w S ρ → zI E nb bl S ρ w → ze w S ρ xs vs → zr w S ρ (.yl p) v → T nb bl xs k →
  ∃ g fn tmps as bd, v = .func (.yield g) #[] #[] ∧ (Instr.yield g vs.toArray).run P w = .ok (.round g fn tmps as bd) w ∧ ∀ r n, RoundIn (FW r) n P g fn tmps as bd w (Rb E S ρ w k)
structure Zc (P : Program) (E : Env) : Prop where
 S0 : ∀ b, E.S0 b → b < E.w0.heap.size ∧ ¬ E.X b
 r0 : ∀ k, E.G.nb0 ≤ k → E.r0 k = .none
 at_ : ∀ p T, E.G.yld p = some T → vf P E.G.objs p T E.w0 E.S0 E.r0
theorem Zc.ext (hY : Zc P E) {nb : Nat} {bl : Nat → OB} (hM : zI E nb bl S ρ w) : Qh E.w0 E.S0 E.r0 w S ρ :=
 ⟨fun b hb => ⟨hM.sup b hb, hM.fr.block b (hY.S0 b hb).1 (hY.S0 b hb).2⟩, fun k => by
  by_cases hk : k < E.G.nb0
  ·rcases hM.ole k hk with e | e
   ·exact .inl e
   ·exact .inr (.inl e)
  ·exact .inr (.inr (hY.r0 k (Nat.not_lt.1 hk)))⟩
theorem ze.append {xs ys : List AV} {vs us : List Value} (h1 : ze w S ρ xs vs) (h2 : ze w S ρ ys us) : ze w S ρ (xs ++ ys) (vs ++ us) := by
 induction xs generalizing vs with
 | nil => cases vs with
  | nil => exact h2
  | cons => exact h1.elim
 | cons x xs ih => cases vs with
  | nil => exact h1.elim
  | cons v vs => exact ⟨h1.1, ih h1.2⟩
theorem ze.ofArr {k : Nat} {f : Nat → AV} {vs : Array Value} (hn : vs.size = k) (h : ∀ i, i < k → zr w S ρ (f i) (vs.getD i undef)) : ze w S ρ ((List.range k).map f) vs.toList := by
 obtain ⟨l⟩ := vs
 have hn' : l.length = k := by simpa using hn
 subst hn'
 clear hn
 induction l generalizing f with
 | nil => trivial
 | cons v l ih =>
  simp only [List.size_toArray, List.length_cons, List.range_succ_eq_map, List.map_cons, List.map_map]
  refine ⟨by simpa using h 0 (by simp), ih (f := f ∘ Nat.succ) fun i hi => ?_⟩
  have := h (i + 1) (by simp only [List.size_toArray, List.length_cons] at hi ⊢; omega)
  simpa using this
theorem WN {o : Oper} {fo : Operand} {args : Array Operand} {ts : Array TypeId} {e : Operand → Value} {f : FuncId} {vs us : Array Value}
  (ho : o.op = .call { callee := .value fo, args, argTypes := ts }) (hf : e fo = .func (.func f) vs us) (he : ∀ args w, (callFunc f args).run P w = .ok (.enter f args) w) :
  (execOp e o).run P w = .ok (.enter f (vs.toList ++ args.toList.map e ++ us.toList).toArray) w := by
 simp only [execOp, ho, resolve, hf, Deferred.ofValue, Sem.run_bind, Sem.run_pure, Result.andThen_ok, invoke, he]
 congr 2
 apply Array.ext'
 simp
theorem Z4 {σ : zw} {l : List Operand} {a : Act} (hF : yU w S ρ σ.n σ.tm a) (hp : ∀ p ∈ za σ l, p.holds) : ze w S ρ (l.map σ.sv) (l.map a.eval) :=
 ze.map fun x hx => (hF.ev x).strip fun p hp' => hp p (List.mem_flatMap.2 ⟨x, hx, hp'⟩)
theorem tr {σ : zw} {a : Act} {fo : Operand} {args : Array Operand} {f : Fn} {nf nc : Nat} {first cap : Nat → AV} (hF : yU w S ρ σ.n σ.tm a) (hf : σ.sv fo = .fn f nf first nc cap)
  (hp : ∀ p ∈ (σ.ev fo).gprop ++ za σ args.toList, p.holds) :
  ∃ vs us, a.eval fo = .func f vs us ∧ ze w S ρ (ZM nf first (args.toList.map σ.sv) nc cap) (vs.toList ++ args.toList.map a.eval ++ us.toList) := by
 have h1 := (hF.ev fo).strip fun p hp' => hp p (List.mem_append_left _ hp')
 rw [show (σ.ev fo).strip = σ.sv fo from rfl, hf] at h1
 obtain ⟨pv, hpv⟩ : ∃ pv, a.eval fo = pv := ⟨_, rfl⟩
 rw [hpv] at h1 ⊢
 cases h1 with
 | fn vs us hn hm hr hs =>
  exact ⟨vs, us, rfl, ((ze.ofArr hn hr).append (Z4 hF fun p hp' => hp p (List.mem_append_right _ hp'))).append (ze.ofArr hm hs)⟩
theorem Yx {xs : List AV} (h : xs.any AV.hasOwn = false) : ∀ x ∈ xs, x.hasOwn = false := fun x hx => by
 rw [List.any_eq_false] at h
 simpa using h x hx
theorem Yl {σ : zw} {a : Act} {f : FuncId} {x : AV} {vs : Array Value} {K : Act → World → Prop} {dst : Option Tmp} (hF : yU w S ρ σ.n σ.tm a) (hD : xS E.w0.heap.size w S a.defers)
  (h : Calls P f vs w (After E σ.nb σ.bl S ρ w x)) (hK : ∀ a' w', St E (σ.put dst x) a' w' → K a' w') : Calls P f vs w fun e w' => ∃ v, e = .returned v ∧ K (a.put dst v) w' := by
 refine h.mono ?_
 rintro e w' ⟨rv, S', rfl, hM, hS, hR⟩
 refine ⟨rv, rfl, hK _ _ ⟨S', ρ, ?_, (hF.mono hS (zX.refl _)).putO dst x rv hR, by rw [ZB]; exact hD.mono hS⟩⟩
 cases dst <;> exact hM
theorem Zr (g : Bool) (ps : List zS) (k : Prop) : Uf g ps k ↔ (g = true → ∀ p ∈ ps, p.holds) ∧ k := by
 unfold Uf
 rw [zk]
 constructor
 ·rintro ⟨h, hk⟩
  exact ⟨fun hg p hp => xm (h _ (List.mem_map.2 ⟨p, hp, rfl⟩)) hg, hk⟩
 ·rintro ⟨h, hk⟩
  refine ⟨fun q hq => ?_, hk⟩
  obtain ⟨p, hp, rfl⟩ := List.mem_map.1 hq
  cases g with
  | true =>
   have := h rfl p hp
   cases p with
   | b x => simpa [zS.under, zS.holds] using this
   | p x => exact fun _ => this
  | false =>
   cases p with
   | b x => simp [zS.under, zS.holds]
   | p x => exact fun e => by cases e
theorem XP (hO : zO P E.G) {g : Option Bool} {f : FuncId} {xs : List AV} {t : TypeId} {K : AV → Prop} (h : y4 P E.G g f xs t K) :
  ∃ r, (gT g → zW P E.G.objs f xs r) ∧ K r := by
 unfold y4 at h
 split at h
 ·rename_i ps r hpu
  cases g with
  | none =>
   have := (zk _ _).1 h
   exact ⟨r, fun _ => hO.pu _ _ _ _ hpu this.1, this.2⟩
  | some g =>
   have := (Zr _ _ _).1 h
   exact ⟨r, fun hg => hO.pu _ _ _ _ hpu (this.1 hg), this.2⟩
 ·obtain ⟨r, h1, h2⟩ := v7 3 t _ h
  cases g with
  | none => exact ⟨r, fun _ => h1, h2⟩
  | some g => exact ⟨r, h1, h2⟩
theorem vZ (hO : zO P E.G) {g : Option Bool} {f : FuncId} {xs : List AV} {t : TypeId} {K : AV → Prop} (hl : xn P E.G f xs t = true) (h : y4 P E.G g f xs t K) :
  ∃ r : AV, r.scalar = true ∧ (gT g → zW P E.G.objs f xs r) ∧ K r := by
 unfold xn at hl
 unfold y4 at h
 split at h
 ·rename_i ps r hpu
  rw [hpu] at hl
  cases g with
  | none =>
   have := (zk _ _).1 h
   exact ⟨r, hl, fun _ => hO.pu _ _ _ _ hpu this.1, this.2⟩
  | some g =>
   have := (Zr _ _ _).1 h
   exact ⟨r, hl, fun hg => hO.pu _ _ _ _ hpu (this.1 hg), this.2⟩
 ·rename_i hpu
  rw [hpu] at hl
  obtain ⟨r, h0, h1, h2⟩ := ve 3 t _ hl h
  cases g with
  | none => exact ⟨r, h0, fun _ => h1, h2⟩
  | some g => exact ⟨r, h0, h1, h2⟩
theorem vy (hO : zO P E.G) {σ : zw} {a : Act} {f : FuncId} {xs : List AV} {vs : List Value} {k : zw → AV → Prop} {K : Value → World → Prop} (hv : XR E.G σ f xs k)
  (hM : zI E σ.nb σ.bl S ρ w) (hF : yU w S ρ σ.n σ.tm a) (hD : xS E.w0.heap.size w S a.defers) (hx : ze w S ρ xs vs)
  (hK : ∀ σ' x v w' S' ρ', k σ' x → zI E σ'.nb σ'.bl S' ρ' w' → yU w' S' ρ' σ'.n σ'.tm a → xS E.w0.heap.size w' S' a.defers → zr w' S' ρ' x v → K v w') :
  (∀ args w, (callFunc f args).run P w = .ok (.enter f args) w) ∧ Calls P f vs.toArray w fun e w' => ∃ v, e = .returned v ∧ K v w' := by
 unfold XR at hv
 split at hv
 ·rename_i T hT
  have hOT := hO.own f T hT
  refine ⟨hOT.enters, (hOT.sound E _ _ _ _ _ _ _ _ rfl hM hx hv).mono ?_⟩
  rintro e w' ⟨nb', bl', S', ρ', x, rv, rfl, hk, hM', hS, hle, hR⟩
  exact ⟨rv, rfl, hK _ _ _ _ S' ρ' hk hM' (hF.mono hS hle) (hD.mono hS) hR⟩
 ·exact hv.elim
theorem Vj (hO : zO P E.G) {σ σ1 : zw} {a : Act} {f : FuncId} {xs : List AV} {vs : List Value} {dst : Option Tmp} {k : zw → Prop} {K : Act → World → Prop} {ps : List zS} {r : AV}
  (he : yR E.G σ f xs = some (ps, σ1, r)) (hv : Zl ps (k (σ1.put dst r)))
  (hM : zI E σ.nb σ.bl S ρ w) (hF : yU w S ρ σ.n σ.tm a) (hD : xS E.w0.heap.size w S a.defers) (hx : ze w S ρ xs vs) (hno : ∀ x ∈ xs, x.hasOwn = false) (hK : ∀ σ' a' w', k σ' → St E σ' a' w' → K a' w') :
  (∀ args w, (callFunc f args).run P w = .ok (.enter f args) w) ∧ Calls P f vs.toArray w fun e w' => ∃ v, e = .returned v ∧ K (a.put dst v) w' := by
 unfold yR at he
 split at he
 ·rename_i ps' t sz len els hfre
  cases he
  rw [zk] at hv
  have hc := hO.fre _ _ _ _ _ _ _ hfre hv.1
  refine ⟨hc.1, (U1 hM hx hno hc).mono ?_⟩
  rintro e w' ⟨v, S', o, rfl, h1, h2, h3, h4⟩
  refine ⟨v, rfl, hK _ _ _ hv.2 ⟨S', _, ?_, yU.putO (σ := σ.add (.arr t sz len els)) (hF.mono h3 h2) dst _ v h4, by rw [ZB]; exact hD.mono h3⟩⟩
  cases dst <;> exact h1
 ·cases he
theorem uo (hO : zO P E.G) {σ : zw} {a : Act} {f : FuncId} {xs : List AV} {vs : List Value} {t : TypeId} {dst : Option Tmp} {k : zw → Prop} {K : Act → World → Prop} (hv : xF P E.G σ f xs t dst k)
  (hM : zI E σ.nb σ.bl S ρ w) (hF : yU w S ρ σ.n σ.tm a) (hD : xS E.w0.heap.size w S a.defers) (hx : ze w S ρ xs vs) (hK : ∀ σ' a' w', k σ' → St E σ' a' w' → K a' w') :
  (∀ args w, (callFunc f args).run P w = .ok (.enter f args) w) ∧ Calls P f vs.toArray w fun e w' => ∃ v, e = .returned v ∧ K (a.put dst v) w' := by
 have fin : ∀ σ' x v w' S' ρ', k ((σ' : zw).put dst x) → zI E σ'.nb σ'.bl S' ρ' w' → yU w' S' ρ' σ'.n σ'.tm a → xS E.w0.heap.size w' S' a.defers → zr w' S' ρ' x v → K (a.put dst v) w' := fun σ' x v w' S' ρ' hk h1 h2 h3 h4 => by
  refine hK _ _ _ hk ⟨S', ρ', ?_, h2.putO dst x v h4, by rw [ZB]; exact h3⟩
  cases dst <;> exact h1
 unfold xF at hv
 split at hv
 ·split at hv
  ·rename_i T hT
   have hOT := hO.own f T hT
   refine ⟨hOT.enters, (hOT.sound E _ _ _ _ _ _ _ _ rfl hM hx hv).mono ?_⟩
   rintro e w' ⟨nb', bl', S', ρ', x, rv, rfl, hk, hM', hS, hle, hR⟩
   refine ⟨rv, rfl, hK _ _ _ hk ⟨S', ρ', ?_, (yU.putO (σ := { σ with nb := nb', bl := bl' }) (hF.mono hS hle) dst x rv hR), by rw [ZB]; exact hD.mono hS⟩⟩
   cases dst <;> exact hM'
  ·split at hv
   ·rename_i ps te sz len els happ hfre
    rw [zk] at hv
    have hc := hO.fre _ _ _ _ _ _ _ hfre fun p hp => hv.1 p (List.mem_append_left _ hp)
    have hsc : ∀ i j, i < len → j < sz → (els i j).scalar = true := hv.1 (.p _) (List.mem_append_right _ (List.mem_singleton.2 rfl))
    refine ⟨hc.1, (Uz hM hx hc hsc).mono ?_⟩
    rintro e w' ⟨v, S', o, rfl, h1, h2, h3, h4⟩
    exact ⟨v, rfl, fin (σ.add (.arr te sz len els)) _ v w' S' _ hv.2 h1 (hF.mono h3 h2) (hD.mono h3) h4⟩
   split at hv
   ·rename_i hs
    obtain ⟨x, h1, h2, h3⟩ := vZ hO hs hv
    exact ⟨(h2 trivial).1, Yl hF hD (Vx hM hx (h2 trivial) h1) fun a' w' hst => hK _ a' w' h3 hst⟩
   ·split at hv
    ·rename_i σ' xs' hc
     split at hv
     ·exact hv.elim
     ·rename_i hno
      obtain ⟨S', ρ', g1, g2, g3, g4⟩ := YR hc hM hF hD hx
      split at hv
      ·rename_i he
       exact Vj hO he hv g1 g2 g3 g4 (Yx (by simpa using hno)) hK
      obtain ⟨x, h2, h3⟩ := XP hO hv
      exact ⟨(h2 trivial).1, Yl g2 g3 (wR g1 g4 (Yx (by simpa using hno)) (h2 trivial)) fun a' w' hst => hK _ a' w' h3 hst⟩
    ·exact hv.elim
 ·rename_i hno
  split at hv
  ·rename_i he
   exact Vj hO he hv hM hF hD hx (Yx (by simpa using hno)) hK
  split at hv
  ·exact vy hO hv hM hF hD hx fin
  ·obtain ⟨x, h2, h3⟩ := XP hO hv
   exact ⟨(h2 trivial).1, Yl hF hD (wR hM hx (Yx (by simpa using hno)) (h2 trivial)) fun a' w' hst => hK _ a' w' h3 hst⟩
theorem yx {σ : zw} {a : Act} (hF : yU w S ρ σ.n σ.tm a) {x : Operand} (hp : ∀ p ∈ (σ.ev x).gprop, p.holds) : zr w S ρ (σ.sv x) (a.eval x) := (hF.ev x).strip hp
theorem pZ {σ : zw} {o : Oper} {a : Act} {ps : List zS} {x : AV} {K : Act → World → Prop} {Q : Exit → Act → World → Prop} (h : ZN P σ.bl σ.ev o.op = some (ps, x)) (hp : ∀ p ∈ ps, p.holds)
  (hM : zI E σ.nb σ.bl S ρ w) (hF : yU w S ρ σ.n σ.tm a) (hD : xS E.w0.heap.size w S a.defers) (hK : ∀ a' w', St E (σ.put o.dst x) a' w' → K a' w') : o.wpIn (FW r) n P a w K Q := by
 obtain ⟨v, h1, h2⟩ := VZ (e := a.eval) hM h hp fun x _ => hF.ev x
 have hnd : ∀ c, o.op ≠ .defer c := fun c e => by
  rw [e] at h; simp [ZN, zf] at h
 refine Xm hnd h1 (hK _ _ ⟨S, ρ, ?_, hF.putO o.dst x v h2, by rw [ZB]; exact hD⟩)
 cases o.dst <;> exact hM
theorem xx {σ σ1 : zw} {X Y x' p' : AV} {a : Act} {u v : Value} (hc : (match Y with | .ap k i j => (bif Ub σ.bl (.ap k i j) then some (σ, [X, Y]) else Xh σ X Y) | _ => some (σ, [X, Y])) = some (σ1, [x', p']))
  (hM : zI E σ.nb σ.bl S ρ w) (hF : yU w S ρ σ.n σ.tm a) (hD : xS E.w0.heap.size w S a.defers) (hxs : ze w S ρ [X, Y] [u, v]) :
  ∃ S' ρ', zI E σ1.nb σ1.bl S' ρ' w ∧ yU w S' ρ' σ1.n σ1.tm a ∧ xS E.w0.heap.size w S' a.defers ∧ ze w S' ρ' [x', p'] [u, v] := by
 split at hc
 ·rename_i k i j
  cases hb : Ub σ.bl (.ap k i j) with
  | true => rw [hb] at hc; cases hc; exact ⟨S, ρ, hM, hF, hD, hxs⟩
  | false => rw [hb] at hc; exact vz hc hM hF hD hxs
 ·cases hc; exact ⟨S, ρ, hM, hF, hD, hxs⟩
theorem VS (hO : zO P E.G) (hY : Zc P E) {σ : zw} {o : Oper} {a : Act} {k : zw → Prop} {K : Act → World → Prop} {Q : Exit → Act → World → Prop} (hv : qb P E.G σ o k) (hst : St E σ a w)
  (hK : ∀ σ' a' w', k σ' → St E σ' a' w' → K a' w') : o.wpIn (FW r) n P a w K Q := by
 obtain ⟨S, ρ, hM, hF, hD⟩ := hst
 have nd : ∀ {op : Op}, o.op = op → (∀ c, op ≠ .defer c) → ∀ c, o.op ≠ .defer c := fun e h c e' => h c (e ▸ e')
 unfold qb at hv
 split at hv
 ·rename_i elem ho
  split at hv
  ·rename_i σ' x h
   exact ZE (nd ho (by simp)) (W6 ho hM hF hD h) fun a' w' hs => hK _ a' w' hv hs
  ·exact hv.elim
 ·rename_i t x ho
  split at hv
  ·rename_i σ' y h
   rw [zk] at hv
   exact ZE (nd ho (by simp)) (Vi ho hM hF hD (yx hF hv.1) h) fun a' w' hs => hK _ a' w' hv.2 hs
  ·exact hv.elim
 ·rename_i t p x ho
  split at hv
  ·rename_i σ1 x' p' hc
   split at hv
   ·rename_i σ' h
    rw [zk] at hv
    have h1 := yx hF fun q hq => hv.1 q (List.mem_append_left _ hq)
    have h2 := yx hF fun q hq => hv.1 q (List.mem_append_right _ hq)
    have hxs : ze w S ρ [σ.sv x, σ.sv p] [a.eval x, a.eval p] := ⟨h2, h1, trivial⟩
    obtain ⟨S', ρ', g1, g2, g3, g4⟩ := xx hc hM hF hD hxs
    exact ZE (nd ho (by simp)) (W2 ho g1 g2 g3 g4.2.1 g4.1 h) fun a' w' hs => hK _ a' w' hv.2 hs
   ·split at hv
    ·rename_i ps σ' h
     rw [zk] at hv
     have h1 := yx hF fun q hq => hv.1 q (List.mem_append_left _ (List.mem_append_left _ hq))
     have h2 := yx hF fun q hq => hv.1 q (List.mem_append_left _ (List.mem_append_right _ hq))
     have hxs : ze w S ρ [σ.sv x, σ.sv p] [a.eval x, a.eval p] := ⟨h2, h1, trivial⟩
     obtain ⟨S', ρ', g1, g2, g3, g4⟩ := xx hc hM hF hD hxs
     exact ZE (nd ho (by simp)) (wb ho g1 g2 g3 g4.2.1 g4.1 h fun q hq => hv.1 q (List.mem_append_right _ hq)) fun a' w' hs => hK _ a' w' hv.2 hs
    ·exact hv.elim
  ·exact hv.elim
 ·rename_i t len parts ho
  split at hv
  ·rename_i σ' x h
   rw [zk] at hv
   have hl := Z4 hF hv.1
   simp only [List.map_map] at hl
   exact ZE (nd ho (by simp)) (vH ho hM hF hD (fun _ => rfl) hl h) fun a' w' hs => hK _ a' w' hv.2 hs
  split at hv
  ·rename_i σ1 xs hc
   split at hv
   ·rename_i σ' x h
    rw [zk] at hv
    have hl := Z4 hF hv.1
    simp only [List.map_map] at hl
    obtain ⟨S', ρ', g1, g2, g3, g4⟩ := YR hc hM hF hD hl
    exact ZE (nd ho (by simp)) (y3 ho g1 g2 g3 g4 h) fun a' w' hs => hK _ a' w' hv.2 hs
   ·exact hv.elim
  ·exact hv.elim
 ·rename_i t l c ho
  split at hv
  ·rename_i ps σ' x h
   rw [zk] at hv
   have h1 := yx hF fun q hq => hv.1 q (List.mem_append_left _ (List.mem_append_left _ hq))
   have h2 := yx hF fun q hq => hv.1 q (List.mem_append_left _ (List.mem_append_right _ hq))
   exact ZE (nd ho (by simp)) (Xs ho hM hF hD h1 h2 h fun q hq => hv.1 q (List.mem_append_right _ hq)) fun a' w' hs => hK _ a' w' hv.2 hs
  ·exact hv.elim
 ·rename_i fo args ts ho
  split at hv
  ·rename_i fid nf first nc cap hfn
   rw [zk] at hv
   obtain ⟨vs, us, hfv, hl⟩ := tr hF hfn hv.1
   obtain ⟨he, hc⟩ := uo hO hv.2 hM hF hD hl hK
   exact XQ (nd ho (by simp)) (WN ho hfv he) hc
  ·rename_i p hfn
   split at hv
   ·rename_i T hT
    rw [zk] at hv
    have h1 : zr w S ρ (.yl p) (a.eval fo) := hfn ▸ yx hF fun q hq => hv.1 q (List.mem_append_left _ hq)
    have hl := Z4 hF fun q hq => hv.1 q (List.mem_append_right _ hq)
    obtain ⟨g, fn, tmps, as, bd, hv1, hrun, hround⟩ := hY.at_ p T hT E _ _ _ _ _ _ _ _ _ rfl (hY.ext hM) hM hl h1 hv.2
    refine Wo (nd ho (by simp)) (Vk ho hv1 hrun) ((hround r (n - 1)).mono ?_)
    rintro e w' ⟨nb', bl', S', ρ', x, rv, rfl, hk, hM', hS, hle, hR⟩
    refine ⟨rv, rfl, hK _ _ _ hk ⟨S', ρ', ?_, (yU.putO (σ := { σ with nb := nb', bl := bl' }) (hF.mono hS hle) o.dst x rv hR), by rw [ZB]; exact hD.mono hS⟩⟩
    cases o.dst <;> exact hM'
   ·exact hv.elim
  ·exact hv.elim
 ·rename_i args ts ho
  split at hv
  ·rename_i s x t t' ha ht
   split at hv
   ·rename_i htt
    subst htt
    split at hv
    ·rename_i ps σ' y h
     rw [zk] at hv
     have h1 := yx hF fun q hq => hv.1 q (List.mem_append_left _ (List.mem_append_left _ hq))
     have h2 := yx hF fun q hq => hv.1 q (List.mem_append_left _ (List.mem_append_right _ hq))
     have ho' : o.op = .call { callee := .builtin .append, args := #[s, x], argTypes := #[t, t] } := by
      rw [ho]
      congr 2
      ·exact Array.ext' (by rw [ha])
      ·exact Array.ext' (by rw [ht])
     exact ZE (nd ho (by simp)) (w3 ho' hM hF hD h1 h2 h fun q hq => hv.1 q (List.mem_append_right _ hq)) fun a' w' hs => hK _ a' w' hv.2 hs
    ·split at hv
     ·rename_i ps σ' y h
      rw [zk] at hv
      have h1 := yx hF fun q hq => hv.1 q (List.mem_append_left _ (List.mem_append_left _ hq))
      have h2 := yx hF fun q hq => hv.1 q (List.mem_append_left _ (List.mem_append_right _ hq))
      have ho' : o.op = .call { callee := .builtin .append, args := #[s, x], argTypes := #[t, t] } := by
       rw [ho]
       congr 2
       ·exact Array.ext' (by rw [ha])
       ·exact Array.ext' (by rw [ht])
      exact ZE (nd ho (by simp)) (ww ho' hM hF hD h1 h2 h fun q hq => hv.1 q (List.mem_append_right _ hq)) fun a' w' hs => hK _ a' w' hv.2 hs
     ·exact hv.elim
   ·split at hv
    ·rename_i ps σ' y h
     rw [zk] at hv
     have h1 := yx hF fun q hq => hv.1 q (List.mem_append_left _ (List.mem_append_left _ hq))
     have h2 := yx hF fun q hq => hv.1 q (List.mem_append_left _ (List.mem_append_right _ hq))
     have ho' : o.op = .call { callee := .builtin .append, args := #[s, x], argTypes := #[t, t'] } := by
      rw [ho]
      congr 2
      ·exact Array.ext' (by rw [ha])
      ·exact Array.ext' (by rw [ht])
     exact ZE (nd ho (by simp)) (wE ho' hM hF hD h1 h2 h fun q hq => hv.1 q (List.mem_append_right _ hq)) fun a' w' hs => hK _ a' w' hv.2 hs
    ·exact hv.elim
  ·exact hv.elim
 ·split at hv
  ·rename_i ps x h
   rw [zk] at hv
   exact pZ h hv.1 hM hF hD fun a' w' hs => hK _ a' w' hv.2 hs
  ·exact hv.elim
theorem yU.skip {σ : zw} {a : Act} {g : Bool} (hF : yU w S ρ σ.n σ.tm a) (hg : g = false) (d : Option Tmp) (x : AV) :
  yU w S ρ (σ.put d (.gd g x)).n (σ.put d (.gd g x)).tm (a.put d undef) :=
 hF.putO d _ _ (.gd undef (fun h => by rw [hg] at h; cases h) fun _ => rfl)
theorem St.skip {σ : zw} {a : Act} {g : Bool} (hM : zI E σ.nb σ.bl S ρ w) (hF : yU w S ρ σ.n σ.tm a) (hD : xS E.w0.heap.size w S a.defers) (hg : g = false) (d : Option Tmp) (x : AV) :
  St E (σ.put d (.gd g x)) (a.put d undef) w := by
 refine ⟨S, ρ, ?_, hF.skip hg d x, by rw [ZB]; exact hD⟩
 cases d <;> exact hM
theorem wW (hO : zO P E.G) {σ : zw} {o : Oper} {a : Act} {g : Bool} {k : zw → Prop} {K : Act → World → Prop} {Q : Exit → Act → World → Prop} (hv : V6 P E.G g σ o k) (hst : St E σ a w)
  (hK : ∀ σ' a' w', k σ' → St E σ' a' w' → K a' w') : (g = true → o.wpIn (FW r) n P a w K Q) ∧ (g = false → K (a.put o.dst undef) w) := by
 obtain ⟨S, ρ, hM, hF, hD⟩ := hst
 have wrap : ∀ {x : AV} {v : Value} {w' : World} {S' : Nat → Prop}, g = true → zr w' S' ρ x v → zr w' S' ρ (.gd g x) v := fun hg h => .gd _ (fun _ => h) fun h0 => by rw [hg] at h0; cases h0
 unfold V6 at hv
 split at hv
 ·rename_i fo args ts ho
  have nd : ∀ c, o.op ≠ .defer c := fun c e => by rw [ho] at e; cases e
  split at hv
  ·rename_i fid nf first nc cap hfn
   simp only [Zr] at hv
   obtain ⟨hp, hv⟩ := hv
   have fin : ∀ {x : AV}, g = true → (∀ {vs : List Value}, ze w S ρ (ZM nf first (args.toList.map σ.sv) nc cap) vs → Calls P fid vs.toArray w (After E σ.nb σ.bl S ρ w x)) →
     (∀ args w, (callFunc fid args).run P w = .ok (.enter fid args) w) → (∀ a' w', St E (σ.put o.dst (.gd g x)) a' w' → K a' w') → o.wpIn (FW r) n P a w K Q := by
    intro x hg hc he hk
    obtain ⟨vs, us, hfv, hl⟩ := tr hF hfn (hp hg)
    refine XQ nd (WN ho hfv he) (Yl (x := .gd g x) hF hD ((hc hl).mono ?_) hk)
    rintro e w' ⟨rv, S', rfl, h1, h2, h3⟩
    exact ⟨rv, S', rfl, h1, h2, wrap hg h3⟩
   split at hv
   ·split at hv
    ·cases g with
     | false => exact ⟨fun hg => (by cases hg), fun hg => hK _ _ _ hv (St.skip hM hF hD hg o.dst _)⟩
     | true => exact hv.elim
    ·split at hv
     ·rename_i hs
      obtain ⟨x, h1, h2, h3⟩ := vZ hO hs hv
      exact ⟨fun hg => fin hg (fun hl => Vx hM hl (h2 hg) h1) (h2 hg).1 fun a' w' h => hK _ a' w' h3 h, fun hg => hK _ _ _ h3 (St.skip hM hF hD hg o.dst x)⟩
     ·exact hv.elim
   ·rename_i hno
    unfold xY at hv
    split at hv
    ·cases g with
     | false => exact ⟨fun hg => (by cases hg), fun hg => hK _ _ _ hv (St.skip hM hF hD hg o.dst _)⟩
     | true => exact hv.elim
    ·obtain ⟨x, h2, h3⟩ := XP hO hv
     exact ⟨fun hg => fin hg (fun hl => wR hM hl (Yx (by simpa using hno)) (h2 hg)) (h2 hg).1 fun a' w' h => hK _ a' w' h3 h, fun hg => hK _ _ _ h3 (St.skip hM hF hD hg o.dst x)⟩
  ·exact hv.elim
 ·rename_i t len parts ho
  split at hv
  ·exact hv.elim
  ·split at hv
   ·rename_i σ' x h
    obtain ⟨rfl, _⟩ := Z3 h
    rw [Zr] at hv
    refine ⟨fun hg => ?_, fun hg => hK _ _ _ hv.2 (St.skip hM hF hD hg o.dst x)⟩
    have hl := Z4 hF (hv.1 hg)
    simp only [List.map_map] at hl
    obtain ⟨nx, v, w', S', ρ', h1, h2, h3, h4, h5, h6⟩ := y3 ho hM hF hD hl h
    exact ZE (x := .gd g x) (fun c e => by rw [ho] at e; cases e) ⟨nx, v, w', S', ρ', h1, h2, h3, h4, h5, .gd _ (fun _ => h6) fun h0 => by rw [hg] at h0; cases h0⟩ fun a' w' hs => hK _ a' w' hv.2 hs
   ·exact hv.elim
 ·split at hv
  ·rename_i ps x h
   rw [Zr] at hv
   refine ⟨fun hg => ?_, fun hg => hK _ _ _ hv.2 (St.skip hM hF hD hg o.dst x)⟩
   obtain ⟨v, h1, h2⟩ := VZ (e := a.eval) hM h (hv.1 hg) fun x _ => hF.ev x
   have hnd : ∀ c, o.op ≠ .defer c := fun c e => by
    rw [e] at h; simp [ZN, zf] at h
   refine Xm hnd h1 (hK _ _ _ hv.2 ⟨S, ρ, ?_, hF.putO o.dst _ v (wrap hg h2), by rw [ZB]; exact hD⟩)
   cases o.dst <;> exact hM
  ·exact hv.elim
theorem TW (hO : zO P E.G) (hY : Zc P E) {σ : zw} {o : Oper} {a : Act} {g : Bool} {k : zw → Prop} {K : Act → World → Prop} {Q : Exit → Act → World → Prop} (hv : V2 P E.G g σ o k) (hst : St E σ a w)
  (hK : ∀ σ' a' w', k σ' → St E σ' a' w' → K a' w') : (g = true → o.wpIn (FW r) n P a w K Q) ∧ (g = false → K (a.put o.dst undef) w) := by
 unfold V2 at hv
 split at hv
 ·rename_i fo args ts ho
  have nd : ∀ c, o.op ≠ .defer c := fun c e => by rw [ho] at e; cases e
  split at hv
  ·rename_i fid nf first nc cap hfn
   split at hv
   ·obtain ⟨S, ρ, hM, hF, hD⟩ := hst
    cases g with
    | true =>
     change Zl _ _ at hv
     rw [zk] at hv
     obtain ⟨hp, hv⟩ := hv
     refine ⟨fun _ => ?_, fun hg => (by cases hg)⟩
     obtain ⟨vs, us, hfv, hl⟩ := tr hF hfn hp
     obtain ⟨he, hc⟩ := vy (K := fun v w' => K (a.put o.dst v) w') hO hv hM hF hD hl fun σ' x v w' S' ρ' hk h1 h2 h3 h4 => by
      refine hK _ _ _ hk ⟨S', ρ', ?_, h2.putO o.dst _ v (.gd _ (fun _ => h4) fun h0 => by cases h0), by rw [ZB]; exact h3⟩
      cases o.dst <;> exact h1
     exact XQ nd (WN ho hfv he) hc
    | false => exact ⟨fun hg => (by cases hg), fun hg => hK _ _ _ hv (St.skip hM hF hD hg o.dst _)⟩
   ·exact wW hO hv hst hK
  ·rename_i p hfn
   split at hv
   ·rename_i T hT
    obtain ⟨S, ρ, hM, hF, hD⟩ := hst
    cases g with
    | true =>
     change Zl _ _ at hv
     rw [zk] at hv
     refine ⟨fun _ => ?_, fun hg => (by cases hg)⟩
     have h1 : zr w S ρ (.yl p) (a.eval fo) := hfn ▸ yx hF fun q hq => hv.1 q (List.mem_append_left _ hq)
     have hl := Z4 hF fun q hq => hv.1 q (List.mem_append_right _ hq)
     obtain ⟨g, fn, tmps, as, bd, hv1, hrun, hround⟩ := hY.at_ p T hT E _ _ _ _ _ _ _ _ _ rfl (hY.ext hM) hM hl h1 hv.2
     refine Wo nd (Vk ho hv1 hrun) ((hround r (n - 1)).mono ?_)
     rintro e w' ⟨nb', bl', S', ρ', x, rv, rfl, hk, hM', hS, hle, hR⟩
     refine ⟨rv, rfl, hK _ _ _ hk ⟨S', ρ', ?_, (yU.putO (σ := { σ with nb := nb', bl := bl' }) (hF.mono hS hle) o.dst _ rv (.gd _ (fun _ => hR) fun h0 => by cases h0)), by rw [ZB]; exact hD.mono hS⟩⟩
     cases o.dst <;> exact hM'
    | false => exact ⟨fun hg => (by cases hg), fun hg => hK _ _ _ hv (St.skip hM hF hD hg o.dst _)⟩
   ·exact hv.elim
  ·exact wW hO hv hst hK
 ·exact wW hO hv hst hK
theorem vN (hO : zO P E.G) (hY : Zc P E) {σ : zw} {o : Oper} {a : Act} {g : Bool} {k : zw → Prop} {K : Act → World → Prop} {Q : Exit → Act → World → Prop}
  (hv : match E.G.conc && !g with | true => k (σ.put o.dst (.gd false (wO P o.type))) | false => V2 P E.G g σ o k) (hst : St E σ a w)
  (hK : ∀ σ' a' w', k σ' → St E σ' a' w' → K a' w') : (g = true → o.wpIn (FW r) n P a w K Q) ∧ (g = false → K (a.put o.dst undef) w) := by
 cases hc : E.G.conc && !g with
 | false => rw [hc] at hv; exact TW hO hY hv hst hK
 | true =>
  rw [hc] at hv
  simp only [Bool.and_eq_true, Bool.not_eq_true'] at hc
  obtain ⟨S, ρ, hM, hF, hD⟩ := hst
  have hg := hc.2
  subst hg
  exact ⟨fun hg => (by cases hg), fun hg => hK _ _ _ hv (St.skip hM hF hD rfl o.dst _)⟩
theorem wi (hO : zO P E.G) (hY : Zc P E) {ops : List Oper} {Q : Exit → Act → World → Prop} : ∀ (rest : List Oper) (i : Nat) {σ : zw} {a : Act} {w : World} {k : zw → Prop}, (∀ j, rest[j]? = ops[i + j]?) → wj P E.G ops rest σ k → St E σ a w →
  (∀ σ' a' w', k σ' → St E σ' a' w' → Q .normal a' w') → wpOpsIn (FW r) n P ops.toArray Q (List.range' i rest.length) a w
 | [], i, σ, a, w, k, _, hv, hst, hK => hK _ _ _ hv hst
 | o :: rest, i, σ, a, w, k, hi, hv, hst, hK => by
  have h0 : ops[i]? = some o := by simpa using (hi 0).symm
  have hrest : ∀ j, rest[j]? = ops[i + 1 + j]? := fun j => by
   have := hi (j + 1)
   simpa [Nat.add_assoc, Nat.add_comm 1 j] using this
  have key : ∀ σ' a' w', wj P E.G ops rest σ' k → St E σ' a' w' → wpOpsIn (FW r) n P ops.toArray Q (List.range' (i + 1) rest.length) a' w' :=
   fun σ' a' w' hv' hst' => wi hO hY rest (i + 1) hrest hv' hst' hK
  simp only [List.length_cons, List.range'_succ, wpOpsIn, List.getElem?_toArray, h0]
  simp only [wj, vG] at hv
  cases hg : o.guard with
  | none =>
   rw [hg] at hv
   simp only [Region.wanted, hg, if_true]
   exact VS hO hY hv hst key
  | some jw =>
   obtain ⟨j, want⟩ := jw
   rw [hg] at hv
   simp only at hv
   split at hv
   ·rename_i g hga
    have hw : Region.wanted o (yielded ops.toArray a.tmps) = g := by
     obtain ⟨S, ρ, _, hF, _⟩ := hst
     simp only [Region.wanted, hg]
     exact we hga hF
    obtain ⟨h1, h2⟩ := vN (r := r) (n := n) (Q := Q) hO hY hv hst key
    rw [hw]
    cases g with
    | true => rw [if_pos rfl]; exact h1 rfl
    | false => rw [if_neg (by simp)]; exact ⟨fun _ _ => trivial, h2 rfl⟩
   ·exact hv.elim
theorem Vf (hO : zO P E.G) (hY : Zc P E) {id : Nat} {ops : Array Oper} {σ : zw} {a : Act} {k : zw → Prop} {Q : Exit → Act → World → Prop} (hv : wj P E.G ops.toList ops.toList σ k) (hst : St E σ a w)
  (hK : ∀ σ' a' w', k σ' → St E σ' a' w' → Q .normal a' w') : (Code.region id ops false).wpIn (FW r) n P Q a w := by
 refine wpIn_region ?_
 rw [List.range_eq_range', ← Array.length_toList]
 have := wi hO hY (r := r) (n := n) (Q := Q) ops.toList 0 (by simp) hv hst hK
 simpa using this
end
end Go.Sx
