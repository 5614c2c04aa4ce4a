/- The verification condition of one operation, of a region carried out in order. -/
import Derived.Test.YtgpbohfbhfbelaaGreatDoorSxJ
import Derived.TacticsIn
set_option linter.unusedSimpArgs false
set_option linter.unusedVariables false
namespace Go.Sx
open Go Go.RowKit
def WI (ex : TypeId → (AV → Prop) → Prop) : List TypeId → (List AV → Prop) → Prop
 | [], k => k []
 | t :: ts, k => ex t fun v => WI ex ts fun vs => k (v :: vs)
def UQ (P : Program) : Nat → TypeId → (AV → Prop) → Prop
 | 0, _, k => ∃ r, k r
 | n + 1, t, k =>
  match P.underlying t with
  | some (.int kd) => ∃ x : Int, k (.v (.int kd x))
  | some .bool => ∃ x : Bool, k (.v (.bool x))
  | some .string => ∃ l : List UInt8, k (.str l)
  | some (.slice _) => ∃ (f : Bool) (sz len : Nat) (els : Nat → Nat → AV), k (.xl f sz len els)
  | some (.tuple ts) => WI (UQ P n) ts.toList fun vs => k (.tup vs.length (zt vs))
  | _ => ∃ r, k r
theorem Uy {ex : TypeId → (AV → Prop) → Prop} (hex : ∀ t k, ex t k → ∃ r, k r) : ∀ (ts : List TypeId) (k : List AV → Prop), WI ex ts k → ∃ vs, k vs
 | [], k, h => ⟨[], h⟩
 | t :: ts, k, h => by
  obtain ⟨v, hv⟩ := hex t _ h
  obtain ⟨vs, hvs⟩ := Uy hex ts _ hv
  grind
theorem SJ {P : Program} : ∀ (n : Nat) (t : TypeId) (k : AV → Prop), UQ P n t k → ∃ r, k r
 | 0, t, k, h => h
 | n + 1, t, k, h => by
  unfold UQ at h
  split at h
  ·grind
  ·grind
  ·grind
  ·grind
  ·obtain ⟨vs, hvs⟩ := Uy (SJ n) _ _ h
   grind
  ·exact h
def oq (P : Program) : Nat → TypeId → Bool
 | 0, _ => false
 | n + 1, t =>
  match P.underlying t with
  | some (.int _) | some .bool | some .string => true
  | some (.tuple ts) => ts.toList.all (oq P n)
  | _ => false
theorem UW {ex : TypeId → (AV → Prop) → Prop} {sc : TypeId → Bool} (hex : ∀ t k, sc t = true → ex t k → ∃ r, r.scalar = true ∧ k r) :
  ∀ (ts : List TypeId) (k : List AV → Prop), ts.all sc = true → WI ex ts k → ∃ vs : List AV, (∀ v ∈ vs, v.scalar = true) ∧ k vs
 | [], k, _, h => ⟨[], fun _ hv => (by cases hv), h⟩
 | t :: ts, k, hs, h => by
  simp only [List.all_cons, Bool.and_eq_true] at hs
  obtain ⟨v, h1, hv⟩ := hex t _ hs.1 h
  obtain ⟨vs, h2, hvs⟩ := UW hex ts _ hs.2 hv
  grind
theorem K7 {f : Nat → Bool} {n : Nat} (h : ∀ i, i < n → f i = false) : Tg f n = false := by
 induction n with
 | zero => rfl
 | succ n ih => simp only [Tg, Bool.or_eq_false_iff]; exact ⟨ih fun i hi => h i (by omega), h n (by omega)⟩
theorem Sm {P : Program} : ∀ (n : Nat) (t : TypeId) (k : AV → Prop), oq P n t = true → UQ P n t k → ∃ r : AV, r.scalar = true ∧ k r
 | 0, t, k, hs, h => by cases hs
 | n + 1, t, k, hs, h => by
  unfold oq at hs
  unfold UQ at h
  split at hs
  ·rename_i kd hu
   rw [hu] at h
   obtain ⟨x, hx⟩ := h; exact ⟨_, rfl, hx⟩
  ·rename_i hu
   rw [hu] at h
   obtain ⟨x, hx⟩ := h; exact ⟨_, rfl, hx⟩
  ·rename_i hu
   rw [hu] at h
   obtain ⟨x, hx⟩ := h; exact ⟨_, rfl, hx⟩
  ·rename_i ts hu
   rw [hu] at h
   obtain ⟨vs, h1, hvs⟩ := UW (Sm n) _ _ hs h
   refine ⟨_, ?_, hvs⟩
   simp only [AV.scalar, Bool.not_eq_true']
   refine K7 fun i hi => ?_
   simp only [zt, List.getElem?_eq_getElem hi, Option.getD_some, Bool.not_eq_false']
   simp_all
  ·cases hs
def zS (want t : Bool) : Bool := bif want then t else !t
def yW (ops : List Oper) (σ : zo) (j : Nat) (want : Bool) : Option Bool :=
 match ops[j]? with
 | some o =>
  match o.dst with
  | some d =>
   if d < σ.n then
    match σ.tm d with
    | .v (.bool t) => some (zS want t)
    | .gd g (.v (.bool t)) => some (g && zS want t)
    | _ => none
   else none
  | none => none
 | none => none
theorem QT (want t : Bool) : ((some t : Option Bool) == some want) = zS want t := by cases want <;> cases t <;> rfl
theorem UY {ops : List Oper} {σ : zo} {j : Nat} {want g : Bool} {w : World} {S : Nat → Prop} {ρ : Nat → Own} {a : Act} (h : yW ops σ j want = some g)
  (hF : Yq w S ρ σ.n σ.tm a) : (yielded ops.toArray a.tmps j == some want) = g := by
 unfold yW at h
 split at h
 ·rename_i o ho
  split at h
  ·rename_i d hd
   split at h
   ·rename_i hlt
    have hr := hF.2 d hlt
    have hy : yielded ops.toArray a.tmps j = match a.tmps.getD d undef with | .bool b => some b | _ => none := by
     unfold yielded
     have hsz : d < a.tmps.size := by rw [hF.1]; exact hlt
     simp only [List.getElem?_toArray, ho, Option.bind_some, hd, Array.getD_eq_getD_getElem?, Array.getElem?_eq_getElem hsz, Option.getD_some]
     cases a.tmps[d] <;> rfl
    split at h
    ·rename_i t ht
     cases h
     rw [ht] at hr
     rw [hy, ZW hr]
     exact QT want t
    ·rename_i g0 t ht
     cases h
     rw [ht] at hr
     cases hr with
     | gd v h1 h2 =>
      cases g0 with
      | true =>
       rw [hy, ZW (h1 rfl)]
       exact QT want t
      | false =>
       rw [hy, h2 rfl]
       rfl
    ·cases h
   ·cases h
  ·cases h
 ·cases h
def AV.refs : AV → List Nat
 | .np k _ | .ns k _ _ | .ap k _ _ | .ps k _ | .mp k => [k]
 | .agg n cs => (List.range n).flatMap fun i => (cs i).refs
 | .tup n cs => (List.range n).flatMap fun i => (cs i).refs
 | .fn _ nf f nc c => ((List.range nf).flatMap fun i => (f i).refs) ++ (List.range nc).flatMap fun i => (c i).refs
 | .gd _ x => x.refs
 | _ => []
def qq (bl : Nat → OB) (x : AV) : List Nat :=
 x.refs.flatMap fun k => (match bl k with
  | .box _ n cells => (List.range n).flatMap fun i => (cells i).refs
  | _ => []) ++ [k]
def tB : List Nat → zo → List AV → Option (zo × List AV)
 | [], σ, xs => some (σ, xs)
 | k :: ks, σ, xs => if k < σ.nb then tB ks (σ.frz k) (xs.map fun x => x.frz σ.bl k) else none
def YE (σ : zo) (xs : List AV) : Option (zo × List AV) :=
 if xs.any AV.hasOwn then tB (xs.flatMap (qq σ.bl)) σ xs else some (σ, xs)
def VQ (σ : zo) (x p : AV) : Option (zo × List AV) :=
 if x.hasOwn then tB (qq σ.bl x) σ [x, p] else some (σ, [x, p])
def yM (nf : Nat) (first : Nat → AV) (args : List AV) (nc : Nat) (cap : Nat → AV) : List AV :=
 (List.range nf).map first ++ args ++ (List.range nc).map cap
def Ra (g : Bool) (ps : List zn) (k : Prop) : Prop := y4 (ps.map fun p => p.under g) k
def gT : Option Bool → Prop
 | none => True
 | some g => g = true
def LM (g : Option Bool) (ps : List zn) (k : Prop) : Prop :=
 match g with
 | none => y4 ps k
 | some g => Ra g ps k
def H5 (P : Program) (G : Cx) (g : Option Bool) (f : FuncId) (xs : List AV) (r : AV) : Prop :=
 match g with
 | none => zT P G.objs f xs r
 | some g => g = true → zT P G.objs f xs r
def xC (P : Program) (G : Cx) (g : Option Bool) (f : FuncId) (xs : List AV) (t : TypeId) (K : AV → Prop) : Prop :=
 match G.pu f xs with
 | some (ps, r) => LM g ps (K r)
 | none => UQ P 3 t fun r => H5 P G g f xs r ∧ K r
def Wo (P : Program) (G : Cx) (f : FuncId) (xs : List AV) (t : TypeId) : Bool :=
 match G.pu f xs with
 | some (_, r) => r.scalar
 | none => oq P 3 t
def inl (G : Cx) (f : FuncId) (xs : List AV) : Bool := (G.own f).isSome && (G.pu f xs).isNone
def tU (P : Program) (t : TypeId) : AV :=
 match P.info? t with
 | some it => (match it.zero with
  | some z => bif Nat.beq z.cells.size 1 then .v (z.cells.getD 0 undef) else .junk
  | none => .junk)
 | none => .junk
def wc (P : Program) (G : Cx) (g : Option Bool) (f : FuncId) (xs : List AV) (t : TypeId) (K : AV → Prop) : Prop :=
 match inl G f xs with
 | true => (match g with | some false => K (tU P t) | _ => ZH f)
 | false => xC P G g f xs t K
def wd (G : Cx) (σ : zo) (f : FuncId) (xs : List AV) (k : zo → AV → Prop) : Prop :=
 match G.own f with
 | some T => T σ.nb σ.bl xs fun nb' bl' r => k { σ with nb := nb', bl := bl' } r
 | none => ZH f
def yH (G : Cx) (σ : zo) (f : FuncId) (xs : List AV) : Option (List zn × zo × AV) :=
 match G.fre f xs with
 | some (ps, t, sz, len, els) => some (ps, σ.add (.arr t sz len els), .ns σ.nb 0 len)
 | none => none
def YS (P : Program) (G : Cx) (σ : zo) (f : FuncId) (xs : List AV) (t : TypeId) (dst : Option Tmp) (k : zo → Prop) : Prop :=
 if xs.any AV.hasOwn then
  match G.own f with
  | some T => T σ.nb σ.bl xs fun nb' bl' r => k (({ σ with nb := nb', bl := bl' } : zo).put dst r)
  | none =>
   if Wo P G f (xs.map (lend σ.bl)) t then xC P G none f (xs.map (lend σ.bl)) t fun r => k (σ.put dst r)
   else
    match YE σ xs with
    | some (σ', xs') =>
     if xs'.any AV.hasOwn then ZH f
     else
      match yH G σ' f xs' with
      | some (ps, σ1, r) => y4 ps (k (σ1.put dst r))
      | none => xC P G none f xs' t fun r => k (σ'.put dst r)
    | none => ZH f
 else
  match yH G σ f xs with
  | some (ps, σ1, r) => y4 ps (k (σ1.put dst r))
  | none =>
   match inl G f xs with
   | true => wd G σ f xs fun σ' r => k (σ'.put dst r)
   | false => xC P G none f xs t fun r => k (σ.put dst r)
def ZG (σ : zo) (l : List Operand) : List zn := l.flatMap fun x => (σ.ev x).gprop
def zo.sv (σ : zo) (x : Operand) : AV := (σ.ev x).strip
def Qj (P : Program) (G : Cx) (σ : zo) (o : Oper) (k : zo → Prop) : Prop :=
 match o.op with
 | .alloc elem =>
  match xi P σ elem with
  | some (σ', r) => k (σ'.put o.dst r)
  | none => ZH o
 | .box t x =>
  match Wh σ t (σ.sv x) with
  | some (σ', r) => y4 (σ.ev x).gprop (k (σ'.put o.dst r))
  | none => ZH o
 | .store t p x =>
  match (match σ.sv p with | .ap _ _ _ => VQ σ (σ.sv x) (σ.sv p) | _ => some (σ, [σ.sv x, σ.sv p])) with
  | some (σ1, [x', p']) =>
   match TH P σ1 t p' x' with
   | some σ' => y4 ((σ.ev p).gprop ++ (σ.ev x).gprop) (k (σ'.put o.dst .junk))
   | none => ZH o
  | _ => ZH o
 | .buildSlice t len parts =>
  match VG P σ t len (parts.toList.map (·.1)) (parts.toList.map (·.2)) (parts.toList.map fun p => σ.sv p.2) with
  | some (σ', r) => y4 (ZG σ (parts.toList.map (·.2))) (k (σ'.put o.dst r))
  | none =>
  match YE σ (parts.toList.map fun p => σ.sv p.2) with
  | some (σ1, xs) =>
   match ZL P σ1 t len (parts.toList.map (·.1)) xs with
   | some (σ', r) => y4 (ZG σ (parts.toList.map (·.2))) (k (σ'.put o.dst r))
   | none => ZH o
  | none => ZH o
 | .makeSlice t l c =>
  match yV P σ t (σ.sv l) (σ.sv c) with
  | some (ps, σ', r) => y4 ((σ.ev l).gprop ++ (σ.ev c).gprop ++ ps) (k (σ'.put o.dst r))
  | none => ZH o
 | .call { callee := .value f, args, .. } =>
  match σ.sv f with
  | .fn (.func fid) nf first nc cap =>
   y4 ((σ.ev f).gprop ++ ZG σ args.toList) (YS P G σ fid (yM nf first (args.toList.map σ.sv) nc cap) o.type o.dst k)
  | .yl p =>
   match G.yld p with
   | some T => y4 ((σ.ev f).gprop ++ ZG σ args.toList) (T σ.nb σ.bl (args.toList.map σ.sv) fun nb' bl' r => k (({ σ with nb := nb', bl := bl' } : zo).put o.dst r))
   | none => ZH o
  | _ => ZH o
 | .call { callee := .builtin .append, args, argTypes } =>
  match args.toList, argTypes.toList with
  | [s, x], [t, t'] =>
   if t = t' then
    match Z0 P σ t (σ.sv s) (σ.sv x) with
    | some (ps, σ', r) => y4 ((σ.ev s).gprop ++ (σ.ev x).gprop ++ ps) (k (σ'.put o.dst r))
    | none => ZH o
   else
    match Y6 P σ t t' (σ.sv s) (σ.sv x) with
    | some (ps, σ', r) => y4 ((σ.ev s).gprop ++ (σ.ev x).gprop ++ ps) (k (σ'.put o.dst r))
    | none => ZH o
  | _, _ => ZH o
 | .call { callee := .builtin .clear, args, argTypes } =>
  match args.toList, argTypes.toList with
  | [x], [t] =>
   match xh P σ t (σ.sv x) with
   | some σ' => y4 (σ.ev x).gprop (k (σ'.put o.dst .junk))
   | none => ZH o
  | _, _ => ZH o
 | .makeMap t none =>
  match XR P σ t with
  | some (σ', r) => k (σ'.put o.dst r)
  | none => ZH o
 | .mapEntry t m i =>
  match xH P σ t (σ.sv m) (σ.sv i) with
  | some (ps, σ', r) => y4 ((σ.ev m).gprop ++ (σ.ev i).gprop ++ ps) (k (σ'.put o.dst r))
  | none => ZH o
 | .entryStore _ m s x =>
  match Z8 σ (σ.sv m) (σ.sv s) (σ.sv x) with
  | some (ps, σ') => y4 ((σ.ev m).gprop ++ (σ.ev s).gprop ++ (σ.ev x).gprop ++ ps) (k (σ'.put o.dst .junk))
  | none => ZH o
 | .mapUpdate t m i x =>
  match Yh P σ t (σ.sv m) (σ.sv i) (σ.sv x) with
  | some (ps, σ') => y4 ((σ.ev m).gprop ++ (σ.ev i).gprop ++ (σ.ev x).gprop ++ ps) (k (σ'.put o.dst .junk))
  | none => ZH o
 | op =>
  match Z1 P G.objs σ.bl σ.ev op with
  | some (ps, r) => y4 ps (k (σ.put o.dst r))
  | none => ZH o
def S7 (P : Program) (G : Cx) (g : Bool) (σ : zo) (o : Oper) (k : zo → Prop) : Prop :=
 match o.op with
 | .call { callee := .value f, args, .. } =>
  match σ.sv f with
  | .fn (.func fid) nf first nc cap =>
   Ra g ((σ.ev f).gprop ++ ZG σ args.toList) <|
    if (yM nf first (args.toList.map σ.sv) nc cap).any AV.hasOwn then
     match inl G fid (yM nf first (args.toList.map σ.sv) nc cap) with
     | true => (match g with | false => k (σ.put o.dst (.gd g (tU P o.type))) | true => ZH o)
     | false => if Wo P G fid ((yM nf first (args.toList.map σ.sv) nc cap).map (lend σ.bl)) o.type then xC P G (some g) fid ((yM nf first (args.toList.map σ.sv) nc cap).map (lend σ.bl)) o.type fun r => k (σ.put o.dst (.gd g r)) else ZH o
    else wc P G (some g) fid (yM nf first (args.toList.map σ.sv) nc cap) o.type fun r => k (σ.put o.dst (.gd g r))
  | _ => ZH o
 | .buildSlice t len parts =>
  if ((parts.toList.map fun p => σ.sv p.2).any AV.hasOwn || ut (parts.toList.map (·.2))) = true then ZH o
  else
   match ZL P σ t len (parts.toList.map (·.1)) (parts.toList.map fun p => σ.sv p.2) with
   | some (_, r) => Ra g (ZG σ (parts.toList.map (·.2))) (k (σ.put o.dst (.gd g r)))
   | none => ZH o
 | op =>
  match Z1 P G.objs σ.bl σ.ev op with
  | some (ps, r) => Ra g ps (k (σ.put o.dst (.gd g r)))
  | none => ZH o
def zY (t : Bool) (A B : Prop) : Prop :=
 match t with
 | true => A
 | false => B
theorem zv {t : Bool} {A B : Prop} : zY t A B ↔ (t = true → A) ∧ (t = false → B) := by
 cases t <;> simp [zY]
def rz (P : Program) (G : Cx) (g : Bool) (σ : zo) (o : Oper) (k : zo → Prop) : Prop :=
 match o.op with
 | .call { callee := .value f, args, .. } =>
  match σ.sv f with
  | .fn (.func fid) nf first nc cap =>
   match inl G fid (yM nf first (args.toList.map σ.sv) nc cap) with
   | true => zY g (y4 ((σ.ev f).gprop ++ ZG σ args.toList) (wd G σ fid (yM nf first (args.toList.map σ.sv) nc cap) fun σ' r => k (σ'.put o.dst (.gd true r)))) (k (σ.put o.dst (.gd false (tU P o.type))))
   | false => S7 P G g σ o k
  | .yl p =>
   match G.yld p with
   | some T => zY g (y4 ((σ.ev f).gprop ++ ZG σ args.toList) (T σ.nb σ.bl (args.toList.map σ.sv) fun nb' bl' r => k (({ σ with nb := nb', bl := bl' } : zo).put o.dst (.gd true r)))) (k (σ.put o.dst (.gd false (.v (.bool false)))))
   | none => ZH o
  | _ => S7 P G g σ o k
 | _ => S7 P G g σ o k
def wO (P : Program) (G : Cx) (ops : List Oper) (o : Oper) (σ : zo) (k : zo → Prop) : Prop :=
 match o.guard with
 | none => Qj P G σ o k
 | some (j, want) =>
  match yW ops σ j want with
  | some g =>
   match G.conc && !g with
   | true => k (σ.put o.dst (.gd false (tU P o.type)))
   | false => rz P G g σ o k
  | none => ZH o
def Ux (P : Program) (G : Cx) (ops : List Oper) : List Oper → zo → (zo → Prop) → Prop
 | [], σ, k => k σ
 | o :: rest, σ, k => wO P G ops o σ fun σ' => Ux P G ops rest σ' k
end Go.Sx

namespace Go.Sx
open Go Go.RowKit
def FW (r : Option Nat) : Fence := { Fence.wide with round := r }
theorem X5 {r : Option Nat} {n : Nat} {P : Program} {f : FuncId} {args : Array Value} {w : World} {R : Ending → World → Prop} :
  CallsIn (FW r) n P f args w R ↔ Calls P f args w R := callsIn_wide (n := n)
section
variable {P : Program} {E : Env} {S : Nat → Prop} {ρ : Nat → Own} {w : World} {r : Option Nat} {n : Nat}
theorem VY {o : Oper} {a : Act} {K : Act → World → Prop} {Q : Exit → Act → World → Prop} {v : Value} {w' : World} (hnd : ∀ c, o.op ≠ .defer c)
  (hrun : (execOp a.eval o).run P w = .ok (.value v) w') (h : K (a.put o.dst v) w') : o.wpIn (FW r) n P a w K Q := by
 refine ⟨fun _ _ => trivial, ?_⟩
 rw [Oper.semAt_eq _ _ _ hnd, hrun]
 exact h
theorem PV {o : Oper} {a : Act} {K : Act → World → Prop} {Q : Exit → Act → World → Prop} {w' : World} (hnd : ∀ c, o.op ≠ .defer c)
  (hrun : (execOp a.eval o).run P w = .ok .skip w') (h : K (a.put o.dst undef) w') : o.wpIn (FW r) n P a w K Q := by
 refine ⟨fun _ _ => trivial, ?_⟩
 rw [Oper.semAt_eq _ _ _ hnd, hrun]
 exact h
theorem vA {o : Oper} {a : Act} {K : Act → World → Prop} {Q : Exit → Act → World → Prop} {f : FuncId} {args : Array Value} (hnd : ∀ c, o.op ≠ .defer c)
  (hrun : (execOp a.eval o).run P w = .ok (.enter f args) w) (h : Calls P f args w fun e w' => ∃ v, e = .returned v ∧ K (a.put o.dst v) w') : o.wpIn (FW r) n P a w K Q := by
 refine ⟨fun _ _ => trivial, ?_⟩
 rw [Oper.semAt_eq _ _ _ hnd, hrun]
 refine ⟨(fun h => by cases h), X5.2 (h.mono ?_)⟩
 simp_all
theorem yr {o : Oper} {a : Act} {K : Act → World → Prop} {Q : Exit → Act → World → Prop} {σ' : zo} {x : AV} (hnd : ∀ c, o.op ≠ .defer c) (h : Eff P E a.eval o a w σ' x)
  (hK : ∀ a' w', St E (σ'.put o.dst x) a' w' → K a' w') : o.wpIn (FW r) n P a w K Q := by
 obtain ⟨nx, v, w', S', ρ', hrun, hnx, hM, hF, hD, hR⟩ := h
 have hst : St E (σ'.put o.dst x) (a.put o.dst v) w' := by
  refine ⟨S', ρ', ?_, hF.putO o.dst x v hR, by rw [YZ]; exact hD⟩
  cases o.dst <;> exact hM
 rcases hnx with rfl | ⟨rfl, rfl⟩
 ·exact VY hnd hrun (hK _ _ hst)
 ·exact PV hnd hrun (hK _ _ hst)
theorem tX {o : Oper} {a : Act} {K : Act → World → Prop} {Q : Exit → Act → World → Prop} {l : Nat} {f : FuncId} {tmps : Array Value} {as bd : Code} (hnd : ∀ c, o.op ≠ .defer c)
  (hrun : (execOp a.eval o).run P w = .ok (.round l f tmps as bd) w) (h : RoundIn (FW r) (n - 1) P l f tmps as bd w fun e w' => ∃ v, e = .returned v ∧ K (a.put o.dst v) w') : o.wpIn (FW r) n P a w K Q := by
 refine ⟨fun _ _ => trivial, ?_⟩
 rw [Oper.semAt_eq _ _ _ hnd, hrun]
 refine ⟨(fun h => by cases h), h.mono ?_⟩
 simp_all
theorem SZ {o : Oper} {fo : Operand} {args : Array Operand} {ts : Array TypeId} {e : Operand → Value} {g : Nat} {fn : FuncId} {tmps : Array Value} {as bd : Code}
  (ho : o.op = .call { callee := .value fo, args, argTypes := ts }) (hf : e fo = .func (.yield g) #[] #[]) (he : (Instr.yield g (args.toList.map e).toArray).run P w = .ok (.round g fn tmps as bd) w) :
  (execOp e o).run P w = .ok (.round g fn tmps as bd) w := by
 simp only [execOp, ho, resolve, hf, Deferred.ofValue, Sem.run_bind, Sem.run_pure, Result.andThen_ok, invoke]
 rw [← he]
 congr 2
 grind
theorem ZI.frz {bl : Nat → OB} {k : Nat} {S' : Nat → Prop} {ρ' : Nat → Own} {xs : List AV} {vs : List Value} (h : ZI w S ρ xs vs)
  (hh : ∀ x v, zF w S ρ x v → zF w S' ρ' (x.frz bl k) v) : ZI w S' ρ' (xs.map fun x => x.frz bl k) vs := by
 induction xs generalizing vs with
 | nil => cases vs <;> exact h
 | cons x xs ih => cases vs with
  | nil => exact h.elim
  | cons v vs => exact ⟨hh _ _ h.1, ih h.2⟩
theorem VN {ks : List Nat} {σ σ' : zo} {xs xs' : List AV} {vs : List Value} {a : Act} (h : tB ks σ xs = some (σ', xs')) (hM : Mem E σ.nb σ.bl S ρ w) (hF : Yq w S ρ σ.n σ.tm a)
  (hD : wi E.w0.heap.size w S a.defers) (hx : ZI w S ρ xs vs) :
  ∃ S' ρ', Mem E σ'.nb σ'.bl S' ρ' w ∧ Yq w S' ρ' σ'.n σ'.tm a ∧ wi E.w0.heap.size w S' a.defers ∧ ZI w S' ρ' xs' vs := by
 induction ks generalizing σ xs S ρ with
 | nil => cases h; exact ⟨S, ρ, hM, hF, hD, hx⟩
 | cons k ks ih =>
  simp only [tB] at h
  split at h
  ·rename_i hk
   obtain ⟨S', h1, h2, h3, h4⟩ := nZ hM hF hk
   exact ih h h1 h2 (hD.mono fun b hb => ⟨h3 b hb, rfl⟩) (hx.frz h4)
  ·cases h
theorem XP {σ σ' : zo} {xs xs' : List AV} {vs : List Value} {a : Act} (h : YE σ xs = some (σ', xs')) (hM : Mem E σ.nb σ.bl S ρ w) (hF : Yq w S ρ σ.n σ.tm a)
  (hD : wi E.w0.heap.size w S a.defers) (hx : ZI w S ρ xs vs) :
  ∃ S' ρ', Mem E σ'.nb σ'.bl S' ρ' w ∧ Yq w S' ρ' σ'.n σ'.tm a ∧ wi E.w0.heap.size w S' a.defers ∧ ZI w S' ρ' xs' vs := by
 unfold YE at h
 split at h
 ·exact VN h hM hF hD hx
 grind
theorem tY {σ σ' : zo} {x p : AV} {xs' : List AV} {vs : List Value} {a : Act} (h : VQ σ x p = some (σ', xs')) (hM : Mem E σ.nb σ.bl S ρ w) (hF : Yq w S ρ σ.n σ.tm a)
  (hD : wi E.w0.heap.size w S a.defers) (hx : ZI w S ρ [x, p] vs) :
  ∃ S' ρ', Mem E σ'.nb σ'.bl S' ρ' w ∧ Yq w S' ρ' σ'.n σ'.tm a ∧ wi E.w0.heap.size w S' a.defers ∧ ZI w S' ρ' xs' vs := by
 unfold VQ at h
 split at h
 ·exact VN h hM hF hD hx
 grind
structure TY (P : Program) (objs : List (Nat × Obj)) (f : FuncId) (T : Nat → (Nat → OB) → List AV → (Nat → (Nat → OB) → AV → Prop) → Prop) : Prop where
 enters : ∀ args w, (callFunc f args).run P w = .ok (.enter f args) w
 mono : ∀ nb bl xs (k k' : Nat → (Nat → OB) → AV → Prop), (∀ nb bl x, k nb bl x → k' nb bl x) → T nb bl xs k → T nb bl xs k'
 sound : ∀ (E : Env) nb bl S ρ w xs vs k, E.G.objs = objs → Mem E nb bl S ρ w → ZI w S ρ xs vs → T nb bl xs k →
  Calls P f vs.toArray w fun e w' => ∃ nb' bl' S' ρ' x rv, e = .returned rv ∧ k nb' bl' x ∧ Mem E nb' bl' S' ρ' w' ∧ (∀ b, S b → S' b ∧ w'.heap[b]? = w.heap[b]?) ∧ zf ρ ρ' ∧ zF w' S' ρ' x rv
def JI (T : Nat → (Nat → OB) → List AV → (Nat → (Nat → OB) → AV → Prop) → Prop) : Prop :=
 ∀ nb bl xs K, T nb bl xs K → T nb bl xs fun nb' bl' r => K nb' bl' r ∧ nb ≤ nb' ∧ ∀ j, j < nb → Wl (bl j) = true → bl' j = bl j
structure zE (P : Program) (G : Cx) : Prop where
 own : ∀ f T, G.own f = some T → TY P G.objs f T
 pu : ∀ f xs ps r, G.pu f xs = some (ps, r) → (∀ p ∈ ps, p.holds) → zT P G.objs f xs r
 fre : ∀ f xs ps t sz len els, G.fre f xs = some (ps, t, sz, len, els) → (∀ p ∈ ps, p.holds) → yX P G.objs f xs t sz len els
 mono : ∀ p T, G.yld p = some T → ∀ nb bl xs (k k' : Nat → (Nat → OB) → AV → Prop), (∀ nb bl x, k nb bl x → k' nb bl x) → T nb bl xs k → T nb bl xs k'
 frm : ∀ f T, G.frm f = true → G.own f = some T → JI T
def K4 (E : Env) (S : Nat → Prop) (ρ : Nat → Own) (w : World) (k : Nat → (Nat → OB) → AV → Prop) (e : Ending) (w' : World) : Prop :=
 ∃ nb' bl' S' ρ' x rv, e = .returned rv ∧ k nb' bl' x ∧ Mem E nb' bl' S' ρ' w' ∧ (∀ b, S b → S' b ∧ w'.heap[b]? = w.heap[b]?) ∧ zf ρ ρ' ∧ zF w' S' ρ' x rv
structure Hb (w0 : World) (S0 : Nat → Prop) (ρ0 : Nat → Own) (w : World) (S : Nat → Prop) (ρ : Nat → Own) : Prop where
 S : ∀ b, S0 b → S b ∧ w.heap[b]? = w0.heap[b]?
 le : zf ρ0 ρ
def SY (P : Program) (objs : List (Nat × Obj)) (p : Nat) (T : Nat → (Nat → OB) → List AV → (Nat → (Nat → OB) → AV → Prop) → Prop) (w0 : World) (S0 : Nat → Prop) (ρ0 : Nat → Own) : Prop :=
 ∀ (E : Env) nb bl S ρ w xs vs k v, E.G.objs = objs → Hb w0 S0 ρ0 w S ρ → Mem E nb bl S ρ w → ZI w S ρ xs vs → zF w S ρ (.yl p) v → T nb bl xs k →
  ∃ g fn tmps as bd, v = .func (.yield g) #[] #[] ∧ (Instr.yield g vs.toArray).run P w = .ok (.round g fn tmps as bd) w ∧ ∀ r n, RoundIn (FW r) n P g fn tmps as bd w (K4 E S ρ w k)
structure yD (P : Program) (E : Env) : Prop where
 S0 : ∀ b, E.S0 b → b < E.w0.heap.size ∧ ¬ E.X b
 r0 : ∀ k, E.G.nb0 ≤ k → E.r0 k = .none
 at_ : ∀ p T, E.G.yld p = some T → SY P E.G.objs p T E.w0 E.S0 E.r0
theorem yD.ext (hY : yD P E) {nb : Nat} {bl : Nat → OB} (hM : Mem E nb bl S ρ w) : Hb E.w0 E.S0 E.r0 w S ρ :=
 ⟨fun b hb => ⟨hM.sup b hb, hM.fr.block b (hY.S0 b hb).1 (hY.S0 b hb).2⟩, fun k => by
  by_cases hk : k < E.G.nb0
  ·rcases hM.ole k hk with e | e
   all_goals simp_all
  ·exact .inr (.inr (hY.r0 k (Nat.not_lt.1 hk)))⟩
theorem ZI.append {xs ys : List AV} {vs us : List Value} (h1 : ZI w S ρ xs vs) (h2 : ZI w S ρ ys us) : ZI w S ρ (xs ++ ys) (vs ++ us) := by
 induction xs generalizing vs with
 | nil => cases vs with
  | nil => exact h2
  | cons => exact h1.elim
 | cons x xs ih => cases vs with
  | nil => exact h1.elim
  | cons v vs => exact ⟨h1.1, ih h1.2⟩
theorem ZI.ofArr {k : Nat} {f : Nat → AV} {vs : Array Value} (hn : vs.size = k) (h : ∀ i, i < k → zF w S ρ (f i) (vs.getD i undef)) : ZI w S ρ ((List.range k).map f) vs.toList := by
 obtain ⟨l⟩ := vs
 have hn' : l.length = k := by simpa using hn
 subst hn'
 clear hn
 induction l generalizing f with
 | nil => trivial
 | cons v l ih =>
  simp only [List.size_toArray, List.length_cons, List.range_succ_eq_map, List.map_cons, List.map_map]
  refine ⟨by simpa using h 0 (by simp), ih (f := f ∘ Nat.succ) fun i hi => ?_⟩
  have := h (i + 1) (by simp only [List.size_toArray, List.length_cons] at hi ⊢; omega)
  simp_all
theorem TQ {o : Oper} {fo : Operand} {args : Array Operand} {ts : Array TypeId} {e : Operand → Value} {f : FuncId} {vs us : Array Value}
  (ho : o.op = .call { callee := .value fo, args, argTypes := ts }) (hf : e fo = .func (.func f) vs us) (he : ∀ args w, (callFunc f args).run P w = .ok (.enter f args) w) :
  (execOp e o).run P w = .ok (.enter f (vs.toList ++ args.toList.map e ++ us.toList).toArray) w := by
 simp only [execOp, ho, resolve, hf, Deferred.ofValue, Sem.run_bind, Sem.run_pure, Result.andThen_ok, invoke, he]
 simp
theorem Yu {σ : zo} {l : List Operand} {a : Act} (hF : Yq w S ρ σ.n σ.tm a) (hp : ∀ p ∈ ZG σ l, p.holds) : ZI w S ρ (l.map σ.sv) (l.map a.eval) :=
 ZI.map fun x hx => (hF.ev x).strip fun p hp' => hp p (List.mem_flatMap.2 ⟨x, hx, hp'⟩)
theorem P5 {σ : zo} {a : Act} {fo : Operand} {args : Array Operand} {f : Fn} {nf nc : Nat} {first cap : Nat → AV} (hF : Yq w S ρ σ.n σ.tm a) (hf : σ.sv fo = .fn f nf first nc cap)
  (hp : ∀ p ∈ (σ.ev fo).gprop ++ ZG σ args.toList, p.holds) :
  ∃ vs us, a.eval fo = .func f vs us ∧ ZI w S ρ (yM nf first (args.toList.map σ.sv) nc cap) (vs.toList ++ args.toList.map a.eval ++ us.toList) := by
 have h1 := (hF.ev fo).strip fun p hp' => hp p (List.mem_append_left _ hp')
 rw [show (σ.ev fo).strip = σ.sv fo from rfl, hf] at h1
 obtain ⟨pv, hpv⟩ : ∃ pv, a.eval fo = pv := ⟨_, rfl⟩
 rw [hpv] at h1 ⊢
 cases h1 with
 | fn vs us hn hm hr hs =>
  exact ⟨vs, us, rfl, ((ZI.ofArr hn hr).append (Yu hF fun p hp' => hp p (List.mem_append_right _ hp'))).append (ZI.ofArr hm hs)⟩
theorem XW {xs : List AV} (h : xs.any AV.hasOwn = false) : ∀ x ∈ xs, x.hasOwn = false := fun x hx => by
 simp_all
theorem Xi {σ : zo} {a : Act} {f : FuncId} {x : AV} {vs : Array Value} {K : Act → World → Prop} {dst : Option Tmp} (hF : Yq w S ρ σ.n σ.tm a) (hD : wi E.w0.heap.size w S a.defers)
  (h : Calls P f vs w (After E σ.nb σ.bl S ρ w x)) (hK : ∀ a' w', St E (σ.put dst x) a' w' → K a' w') : Calls P f vs w fun e w' => ∃ v, e = .returned v ∧ K (a.put dst v) w' := by
 refine h.mono ?_
 rintro e w' ⟨rv, S', rfl, hM, hS, hR⟩
 refine ⟨rv, rfl, hK _ _ ⟨S', ρ, ?_, (hF.mono hS (zf.refl _)).putO dst x rv hR, by rw [YZ]; exact hD.mono hS⟩⟩
 cases dst <;> exact hM
theorem yt (g : Bool) (ps : List zn) (k : Prop) : Ra g ps k ↔ (g = true → ∀ p ∈ ps, p.holds) ∧ k := by
 unfold Ra
 rw [zd]
 constructor
 ·rintro ⟨h, hk⟩
  exact ⟨fun hg p hp => WO (h _ (List.mem_map.2 ⟨p, hp, rfl⟩)) hg, hk⟩
 ·rintro ⟨h, hk⟩
  refine ⟨fun q hq => ?_, hk⟩
  obtain ⟨p, hp, rfl⟩ := List.mem_map.1 hq
  cases g with
  | true =>
   have := h rfl p hp
   cases p with
   | b x => assumption
   | p x => exact fun _ => this
  | false =>
   cases p with
   | b x => rfl
   | p x => exact fun e => by cases e
theorem vH (hO : zE P E.G) {g : Option Bool} {f : FuncId} {xs : List AV} {t : TypeId} {K : AV → Prop} (h : xC P E.G g f xs t K) :
  ∃ r, (gT g → zT P E.G.objs f xs r) ∧ K r := by
 unfold xC at h
 split at h
 ·rename_i ps r hpu
  cases g with
  | none =>
   have := (zd _ _).1 h
   exact ⟨r, fun _ => hO.pu _ _ _ _ hpu this.1, this.2⟩
  | some g =>
   have := (yt _ _ _).1 h
   exact ⟨r, fun hg => hO.pu _ _ _ _ hpu (this.1 hg), this.2⟩
 ·obtain ⟨r, h1, h2⟩ := SJ 3 t _ h
  cases g with
  | none => exact ⟨r, fun _ => h1, h2⟩
  | some g => exact ⟨r, h1, h2⟩
theorem TV (hO : zE P E.G) {g : Option Bool} {f : FuncId} {xs : List AV} {t : TypeId} {K : AV → Prop} (hl : Wo P E.G f xs t = true) (h : xC P E.G g f xs t K) :
  ∃ r : AV, r.scalar = true ∧ (gT g → zT P E.G.objs f xs r) ∧ K r := by
 unfold Wo at hl
 unfold xC at h
 split at h
 ·rename_i ps r hpu
  rw [hpu] at hl
  cases g with
  | none =>
   have := (zd _ _).1 h
   exact ⟨r, hl, fun _ => hO.pu _ _ _ _ hpu this.1, this.2⟩
  | some g =>
   have := (yt _ _ _).1 h
   exact ⟨r, hl, fun hg => hO.pu _ _ _ _ hpu (this.1 hg), this.2⟩
 ·rename_i hpu
  rw [hpu] at hl
  obtain ⟨r, h0, h1, h2⟩ := Sm 3 t _ hl h
  cases g with
  | none => exact ⟨r, h0, fun _ => h1, h2⟩
  | some g => exact ⟨r, h0, h1, h2⟩
theorem Ud (hO : zE P E.G) {σ : zo} {a : Act} {f : FuncId} {xs : List AV} {vs : List Value} {k : zo → AV → Prop} {K : Value → World → Prop} (hv : wd E.G σ f xs k)
  (hM : Mem E σ.nb σ.bl S ρ w) (hF : Yq w S ρ σ.n σ.tm a) (hD : wi E.w0.heap.size w S a.defers) (hx : ZI w S ρ xs vs)
  (hK : ∀ σ' x v w' S' ρ', k σ' x → Mem E σ'.nb σ'.bl S' ρ' w' → Yq w' S' ρ' σ'.n σ'.tm a → wi E.w0.heap.size w' S' a.defers → zF w' S' ρ' x v → K v w') :
  (∀ args w, (callFunc f args).run P w = .ok (.enter f args) w) ∧ Calls P f vs.toArray w fun e w' => ∃ v, e = .returned v ∧ K v w' := by
 unfold wd at hv
 split at hv
 ·rename_i T hT
  have hOT := hO.own f T hT
  refine ⟨hOT.enters, (hOT.sound E _ _ _ _ _ _ _ _ rfl hM hx hv).mono ?_⟩
  rintro e w' ⟨nb', bl', S', ρ', x, rv, rfl, hk, hM', hS, hle, hR⟩
  exact ⟨rv, rfl, hK _ _ _ _ S' ρ' hk hM' (hF.mono hS hle) (hD.mono hS) hR⟩
 ·exact hv.elim
theorem Sy (hO : zE P E.G) {σ σ1 : zo} {a : Act} {f : FuncId} {xs : List AV} {vs : List Value} {dst : Option Tmp} {k : zo → Prop} {K : Act → World → Prop} {ps : List zn} {r : AV}
  (he : yH E.G σ f xs = some (ps, σ1, r)) (hv : y4 ps (k (σ1.put dst r)))
  (hM : Mem E σ.nb σ.bl S ρ w) (hF : Yq w S ρ σ.n σ.tm a) (hD : wi E.w0.heap.size w S a.defers) (hx : ZI w S ρ xs vs) (hno : ∀ x ∈ xs, x.hasOwn = false) (hK : ∀ σ' a' w', k σ' → St E σ' a' w' → K a' w') :
  (∀ args w, (callFunc f args).run P w = .ok (.enter f args) w) ∧ Calls P f vs.toArray w fun e w' => ∃ v, e = .returned v ∧ K (a.put dst v) w' := by
 unfold yH at he
 split at he
 ·rename_i ps' t sz len els hfre
  cases he
  rw [zd] at hv
  have hc := hO.fre _ _ _ _ _ _ _ hfre hv.1
  refine ⟨hc.1, (pB hM hx hno hc).mono ?_⟩
  rintro e w' ⟨v, S', o, rfl, h1, h2, h3, h4⟩
  refine ⟨v, rfl, hK _ _ _ hv.2 ⟨S', _, ?_, Yq.putO (σ := σ.add (.arr t sz len els)) (hF.mono h3 h2) dst _ v h4, by rw [YZ]; exact hD.mono h3⟩⟩
  cases dst <;> exact h1
 ·cases he
theorem rq (hO : zE P E.G) {σ : zo} {a : Act} {f : FuncId} {xs : List AV} {vs : List Value} {t : TypeId} {dst : Option Tmp} {k : zo → Prop} {K : Act → World → Prop} (hv : YS P E.G σ f xs t dst k)
  (hM : Mem E σ.nb σ.bl S ρ w) (hF : Yq w S ρ σ.n σ.tm a) (hD : wi E.w0.heap.size w S a.defers) (hx : ZI w S ρ xs vs) (hK : ∀ σ' a' w', k σ' → St E σ' a' w' → K a' w') :
  (∀ args w, (callFunc f args).run P w = .ok (.enter f args) w) ∧ Calls P f vs.toArray w fun e w' => ∃ v, e = .returned v ∧ K (a.put dst v) w' := by
 have fin : ∀ σ' x v w' S' ρ', k ((σ' : zo).put dst x) → Mem E σ'.nb σ'.bl S' ρ' w' → Yq w' S' ρ' σ'.n σ'.tm a → wi E.w0.heap.size w' S' a.defers → zF w' S' ρ' x v → K (a.put dst v) w' := fun σ' x v w' S' ρ' hk h1 h2 h3 h4 => by
  refine hK _ _ _ hk ⟨S', ρ', ?_, h2.putO dst x v h4, by rw [YZ]; exact h3⟩
  cases dst <;> exact h1
 unfold YS at hv
 split at hv
 ·split at hv
  ·rename_i T hT
   have hOT := hO.own f T hT
   refine ⟨hOT.enters, (hOT.sound E _ _ _ _ _ _ _ _ rfl hM hx hv).mono ?_⟩
   rintro e w' ⟨nb', bl', S', ρ', x, rv, rfl, hk, hM', hS, hle, hR⟩
   refine ⟨rv, rfl, hK _ _ _ hk ⟨S', ρ', ?_, (Yq.putO (σ := { σ with nb := nb', bl := bl' }) (hF.mono hS hle) dst x rv hR), by rw [YZ]; exact hD.mono hS⟩⟩
   cases dst <;> exact hM'
  ·split at hv
   ·rename_i hs
    obtain ⟨x, h1, h2, h3⟩ := TV hO hs hv
    exact ⟨(h2 trivial).1, Xi hF hD (sX hM hx (h2 trivial) h1) fun a' w' hst => hK _ a' w' h3 hst⟩
   ·split at hv
    ·rename_i σ' xs' hc
     split at hv
     ·exact hv.elim
     ·rename_i hno
      obtain ⟨S', ρ', g1, g2, g3, g4⟩ := XP hc hM hF hD hx
      split at hv
      ·rename_i he
       exact Sy hO he hv g1 g2 g3 g4 (XW (by simpa using hno)) hK
      obtain ⟨x, h2, h3⟩ := vH hO hv
      exact ⟨(h2 trivial).1, Xi g2 g3 (uM g1 g4 (XW (by simpa using hno)) (h2 trivial)) fun a' w' hst => hK _ a' w' h3 hst⟩
    ·exact hv.elim
 ·rename_i hno
  split at hv
  ·rename_i he
   exact Sy hO he hv hM hF hD hx (XW (by simpa using hno)) hK
  split at hv
  ·exact Ud hO hv hM hF hD hx fin
  ·obtain ⟨x, h2, h3⟩ := vH hO hv
   exact ⟨(h2 trivial).1, Xi hF hD (uM hM hx (XW (by simpa using hno)) (h2 trivial)) fun a' w' hst => hK _ a' w' h3 hst⟩
theorem yL {σ : zo} {a : Act} (hF : Yq w S ρ σ.n σ.tm a) {x : Operand} (hp : ∀ p ∈ (σ.ev x).gprop, p.holds) : zF w S ρ (σ.sv x) (a.eval x) := (hF.ev x).strip hp
theorem i6 {σ : zo} {o : Oper} {a : Act} {ps : List zn} {x : AV} {K : Act → World → Prop} {Q : Exit → Act → World → Prop} (h : Z1 P E.G.objs σ.bl σ.ev o.op = some (ps, x)) (hp : ∀ p ∈ ps, p.holds)
  (hM : Mem E σ.nb σ.bl S ρ w) (hF : Yq w S ρ σ.n σ.tm a) (hD : wi E.w0.heap.size w S a.defers) (hK : ∀ a' w', St E (σ.put o.dst x) a' w' → K a' w') : o.wpIn (FW r) n P a w K Q := by
 obtain ⟨v, h1, h2⟩ := Su (e := a.eval) hM h hp fun x _ => hF.ev x
 have hnd : ∀ c, o.op ≠ .defer c := fun c e => by
  rw [e] at h; simp [Z1, ZQ] at h
 refine VY hnd h1 (hK _ _ ⟨S, ρ, ?_, hF.putO o.dst x v h2, by rw [YZ]; exact hD⟩)
 cases o.dst <;> exact hM
theorem UP {σ σ1 : zo} {X Y x' p' : AV} {a : Act} {u v : Value} (hc : (match Y with | .ap _ _ _ => VQ σ X Y | _ => some (σ, [X, Y])) = some (σ1, [x', p']))
  (hM : Mem E σ.nb σ.bl S ρ w) (hF : Yq w S ρ σ.n σ.tm a) (hD : wi E.w0.heap.size w S a.defers) (hxs : ZI w S ρ [X, Y] [u, v]) :
  ∃ S' ρ', Mem E σ1.nb σ1.bl S' ρ' w ∧ Yq w S' ρ' σ1.n σ1.tm a ∧ wi E.w0.heap.size w S' a.defers ∧ ZI w S' ρ' [x', p'] [u, v] := by
 split at hc
 ·exact tY hc hM hF hD hxs
 ·cases hc; exact ⟨S, ρ, hM, hF, hD, hxs⟩
theorem SU (hO : zE P E.G) (hY : yD P E) {σ : zo} {o : Oper} {a : Act} {k : zo → Prop} {K : Act → World → Prop} {Q : Exit → Act → World → Prop} (hv : Qj P E.G σ o k) (hst : St E σ a w)
  (hK : ∀ σ' a' w', k σ' → St E σ' a' w' → K a' w') : o.wpIn (FW r) n P a w K Q := by
 obtain ⟨S, ρ, hM, hF, hD⟩ := hst
 have nd : ∀ {op : Op}, o.op = op → (∀ c, op ≠ .defer c) → ∀ c, o.op ≠ .defer c := fun e h c e' => h c (e ▸ e')
 unfold Qj at hv
 split at hv
 ·rename_i elem ho
  split at hv
  ·rename_i σ' x h
   exact yr (nd ho (by simp)) (Tk ho hM hF hD h) fun a' w' hs => hK _ a' w' hv hs
  ·exact hv.elim
 ·rename_i t x ho
  split at hv
  ·rename_i σ' y h
   rw [zd] at hv
   exact yr (nd ho (by simp)) (Sg ho hM hF hD (yL hF hv.1) h) fun a' w' hs => hK _ a' w' hv.2 hs
  ·exact hv.elim
 ·rename_i t p x ho
  split at hv
  ·rename_i σ1 x' p' hc
   split at hv
   ·rename_i σ' h
    rw [zd] at hv
    have h1 := yL hF fun q hq => hv.1 q (List.mem_append_left _ hq)
    have h2 := yL hF fun q hq => hv.1 q (List.mem_append_right _ hq)
    have hxs : ZI w S ρ [σ.sv x, σ.sv p] [a.eval x, a.eval p] := ⟨h2, h1, trivial⟩
    obtain ⟨S', ρ', g1, g2, g3, g4⟩ := UP hc hM hF hD hxs
    exact yr (nd ho (by simp)) (UE ho g1 g2 g3 g4.2.1 g4.1 h) fun a' w' hs => hK _ a' w' hv.2 hs
   ·exact hv.elim
  ·exact hv.elim
 ·rename_i t len parts ho
  split at hv
  ·rename_i σ' x h
   rw [zd] at hv
   have hl := Yu hF hv.1
   simp only [List.map_map] at hl
   exact yr (nd ho (by simp)) (Tc ho hM hF hD (fun _ => rfl) hl h) fun a' w' hs => hK _ a' w' hv.2 hs
  split at hv
  ·rename_i σ1 xs hc
   split at hv
   ·rename_i σ' x h
    rw [zd] at hv
    have hl := Yu hF hv.1
    simp only [List.map_map] at hl
    obtain ⟨S', ρ', g1, g2, g3, g4⟩ := XP hc hM hF hD hl
    exact yr (nd ho (by simp)) (xb ho g1 g2 g3 g4 h) fun a' w' hs => hK _ a' w' hv.2 hs
   ·exact hv.elim
  ·exact hv.elim
 ·rename_i t l c ho
  split at hv
  ·rename_i ps σ' x h
   rw [zd] at hv
   have h1 := yL hF fun q hq => hv.1 q (List.mem_append_left _ (List.mem_append_left _ hq))
   have h2 := yL hF fun q hq => hv.1 q (List.mem_append_left _ (List.mem_append_right _ hq))
   exact yr (nd ho (by simp)) (vG ho hM hF hD h1 h2 h fun q hq => hv.1 q (List.mem_append_right _ hq)) fun a' w' hs => hK _ a' w' hv.2 hs
  ·exact hv.elim
 ·rename_i fo args ts ho
  split at hv
  ·rename_i fid nf first nc cap hfn
   rw [zd] at hv
   obtain ⟨vs, us, hfv, hl⟩ := P5 hF hfn hv.1
   obtain ⟨he, hc⟩ := rq hO hv.2 hM hF hD hl hK
   exact vA (nd ho (by simp)) (TQ ho hfv he) hc
  ·rename_i p hfn
   split at hv
   ·rename_i T hT
    rw [zd] at hv
    have h1 : zF w S ρ (.yl p) (a.eval fo) := hfn ▸ yL hF fun q hq => hv.1 q (List.mem_append_left _ hq)
    have hl := Yu hF fun q hq => hv.1 q (List.mem_append_right _ hq)
    obtain ⟨g, fn, tmps, as, bd, hv1, hrun, hround⟩ := hY.at_ p T hT E _ _ _ _ _ _ _ _ _ rfl (hY.ext hM) hM hl h1 hv.2
    refine tX (nd ho (by simp)) (SZ ho hv1 hrun) ((hround r (n - 1)).mono ?_)
    rintro e w' ⟨nb', bl', S', ρ', x, rv, rfl, hk, hM', hS, hle, hR⟩
    refine ⟨rv, rfl, hK _ _ _ hk ⟨S', ρ', ?_, (Yq.putO (σ := { σ with nb := nb', bl := bl' }) (hF.mono hS hle) o.dst x rv hR), by rw [YZ]; exact hD.mono hS⟩⟩
    cases o.dst <;> exact hM'
   ·exact hv.elim
  ·exact hv.elim
 ·rename_i args ts ho
  split at hv
  ·rename_i s x t t' ha ht
   split at hv
   ·rename_i htt
    subst htt
    split at hv
    ·rename_i ps σ' y h
     rw [zd] at hv
     have h1 := yL hF fun q hq => hv.1 q (List.mem_append_left _ (List.mem_append_left _ hq))
     have h2 := yL hF fun q hq => hv.1 q (List.mem_append_left _ (List.mem_append_right _ hq))
     have ho' : o.op = .call { callee := .builtin .append, args := #[s, x], argTypes := #[t, t] } := by
      rw [ho]
      congr 2
      ·exact Array.ext' (by rw [ha])
      ·exact Array.ext' (by rw [ht])
     exact yr (nd ho (by simp)) (UO ho' hM hF hD h1 h2 h fun q hq => hv.1 q (List.mem_append_right _ hq)) fun a' w' hs => hK _ a' w' hv.2 hs
    ·exact hv.elim
   ·split at hv
    ·rename_i ps σ' y h
     rw [zd] at hv
     have h1 := yL hF fun q hq => hv.1 q (List.mem_append_left _ (List.mem_append_left _ hq))
     have h2 := yL hF fun q hq => hv.1 q (List.mem_append_left _ (List.mem_append_right _ hq))
     have ho' : o.op = .call { callee := .builtin .append, args := #[s, x], argTypes := #[t, t'] } := by
      rw [ho]
      congr 2
      ·exact Array.ext' (by rw [ha])
      ·exact Array.ext' (by rw [ht])
     exact yr (nd ho (by simp)) (Um ho' hM hF hD h1 h2 h fun q hq => hv.1 q (List.mem_append_right _ hq)) fun a' w' hs => hK _ a' w' hv.2 hs
    ·exact hv.elim
  ·exact hv.elim
 ·rename_i args ts ho
  split at hv
  ·rename_i x t ha ht
   split at hv
   ·rename_i σ' h
    rw [zd] at hv
    have ho' : o.op = .call { callee := .builtin .clear, args := #[x], argTypes := #[t] } := by
     rw [ho]
     congr 2
     ·exact Array.ext' (by rw [ha])
     ·exact Array.ext' (by rw [ht])
    exact yr (nd ho (by simp)) (TN ho' hM hF hD (yL hF hv.1) h) fun a' w' hs => hK _ a' w' hv.2 hs
   ·exact hv.elim
  ·exact hv.elim
 ·rename_i t ho
  split at hv
  ·rename_i σ' x h
   exact yr (nd ho (by simp)) (uQ ho hM hF hD h) fun a' w' hs => hK _ a' w' hv hs
  ·exact hv.elim
 ·rename_i t om oi ho
  split at hv
  ·rename_i ps σ' x h
   rw [zd] at hv
   have h1 := yL hF fun q hq => hv.1 q (List.mem_append_left _ (List.mem_append_left _ hq))
   have h2 := yL hF fun q hq => hv.1 q (List.mem_append_left _ (List.mem_append_right _ hq))
   exact yr (nd ho (by simp)) (Vh ho hM hF hD h1 h2 h fun q hq => hv.1 q (List.mem_append_right _ hq)) fun a' w' hs => hK _ a' w' hv.2 hs
  ·exact hv.elim
 ·rename_i t om oi ox ho
  split at hv
  ·rename_i ps σ' h
   rw [zd] at hv
   have h1 := yL hF fun q hq => hv.1 q (List.mem_append_left _ (List.mem_append_left _ (List.mem_append_left _ hq)))
   have h2 := yL hF fun q hq => hv.1 q (List.mem_append_left _ (List.mem_append_left _ (List.mem_append_right _ hq)))
   have h3 := yL hF fun q hq => hv.1 q (List.mem_append_left _ (List.mem_append_right _ hq))
   exact yr (nd ho (by simp)) (vr ho hM hF hD h1 h2 h3 h fun q hq => hv.1 q (List.mem_append_right _ hq)) fun a' w' hs => hK _ a' w' hv.2 hs
  ·exact hv.elim
 ·rename_i t om oi ox ho
  split at hv
  ·rename_i ps σ' h
   rw [zd] at hv
   have h1 := yL hF fun q hq => hv.1 q (List.mem_append_left _ (List.mem_append_left _ (List.mem_append_left _ hq)))
   have h2 := yL hF fun q hq => hv.1 q (List.mem_append_left _ (List.mem_append_left _ (List.mem_append_right _ hq)))
   have h3 := yL hF fun q hq => hv.1 q (List.mem_append_left _ (List.mem_append_right _ hq))
   exact yr (nd ho (by simp)) (Un ho hM hF hD h1 h2 h3 h fun q hq => hv.1 q (List.mem_append_right _ hq)) fun a' w' hs => hK _ a' w' hv.2 hs
  ·exact hv.elim
 ·split at hv
  ·rename_i ps x h
   rw [zd] at hv
   exact i6 h hv.1 hM hF hD fun a' w' hs => hK _ a' w' hv.2 hs
  ·exact hv.elim
theorem Yq.skip {σ : zo} {a : Act} {g : Bool} (hF : Yq w S ρ σ.n σ.tm a) (hg : g = false) (d : Option Tmp) (x : AV) :
  Yq w S ρ (σ.put d (.gd g x)).n (σ.put d (.gd g x)).tm (a.put d undef) :=
 hF.putO d _ _ (.gd undef (fun h => by rw [hg] at h; cases h) fun _ => rfl)
theorem St.skip {σ : zo} {a : Act} {g : Bool} (hM : Mem E σ.nb σ.bl S ρ w) (hF : Yq w S ρ σ.n σ.tm a) (hD : wi E.w0.heap.size w S a.defers) (hg : g = false) (d : Option Tmp) (x : AV) :
  St E (σ.put d (.gd g x)) (a.put d undef) w := by
 refine ⟨S, ρ, ?_, hF.skip hg d x, by rw [YZ]; exact hD⟩
 cases d <;> exact hM
theorem V4 (hO : zE P E.G) {σ : zo} {o : Oper} {a : Act} {g : Bool} {k : zo → Prop} {K : Act → World → Prop} {Q : Exit → Act → World → Prop} (hv : S7 P E.G g σ o k) (hst : St E σ a w)
  (hK : ∀ σ' a' w', k σ' → St E σ' a' w' → K a' w') : (g = true → o.wpIn (FW r) n P a w K Q) ∧ (g = false → K (a.put o.dst undef) w) := by
 obtain ⟨S, ρ, hM, hF, hD⟩ := hst
 have wrap : ∀ {x : AV} {v : Value} {w' : World} {S' : Nat → Prop}, g = true → zF w' S' ρ x v → zF w' S' ρ (.gd g x) v := fun hg h => .gd _ (fun _ => h) fun h0 => by rw [hg] at h0; cases h0
 unfold S7 at hv
 split at hv
 ·rename_i fo args ts ho
  have nd : ∀ c, o.op ≠ .defer c := fun c e => by rw [ho] at e; cases e
  split at hv
  ·rename_i fid nf first nc cap hfn
   simp only [yt] at hv
   obtain ⟨hp, hv⟩ := hv
   have fin : ∀ {x : AV}, g = true → (∀ {vs : List Value}, ZI w S ρ (yM nf first (args.toList.map σ.sv) nc cap) vs → Calls P fid vs.toArray w (After E σ.nb σ.bl S ρ w x)) →
     (∀ args w, (callFunc fid args).run P w = .ok (.enter fid args) w) → (∀ a' w', St E (σ.put o.dst (.gd g x)) a' w' → K a' w') → o.wpIn (FW r) n P a w K Q := by
    intro x hg hc he hk
    obtain ⟨vs, us, hfv, hl⟩ := P5 hF hfn (hp hg)
    refine vA nd (TQ ho hfv he) (Xi (x := .gd g x) hF hD ((hc hl).mono ?_) hk)
    rintro e w' ⟨rv, S', rfl, h1, h2, h3⟩
    exact ⟨rv, S', rfl, h1, h2, wrap hg h3⟩
   split at hv
   ·split at hv
    ·cases g with
     | false => exact ⟨fun hg => (by cases hg), fun hg => hK _ _ _ hv (St.skip hM hF hD hg o.dst _)⟩
     | true => exact hv.elim
    ·split at hv
     ·rename_i hs
      obtain ⟨x, h1, h2, h3⟩ := TV hO hs hv
      exact ⟨fun hg => fin hg (fun hl => sX hM hl (h2 hg) h1) (h2 hg).1 fun a' w' h => hK _ a' w' h3 h, fun hg => hK _ _ _ h3 (St.skip hM hF hD hg o.dst x)⟩
     ·exact hv.elim
   ·rename_i hno
    unfold wc at hv
    split at hv
    ·cases g with
     | false => exact ⟨fun hg => (by cases hg), fun hg => hK _ _ _ hv (St.skip hM hF hD hg o.dst _)⟩
     | true => exact hv.elim
    ·obtain ⟨x, h2, h3⟩ := vH hO hv
     exact ⟨fun hg => fin hg (fun hl => uM hM hl (XW (by simpa using hno)) (h2 hg)) (h2 hg).1 fun a' w' h => hK _ a' w' h3 h, fun hg => hK _ _ _ h3 (St.skip hM hF hD hg o.dst x)⟩
  ·exact hv.elim
 ·rename_i t len parts ho
  split at hv
  ·exact hv.elim
  ·split at hv
   ·rename_i σ' x h
    obtain ⟨rfl, _⟩ := YU h
    rw [yt] at hv
    refine ⟨fun hg => ?_, fun hg => hK _ _ _ hv.2 (St.skip hM hF hD hg o.dst x)⟩
    have hl := Yu hF (hv.1 hg)
    simp only [List.map_map] at hl
    obtain ⟨nx, v, w', S', ρ', h1, h2, h3, h4, h5, h6⟩ := xb ho hM hF hD hl h
    exact yr (x := .gd g x) (fun c e => by rw [ho] at e; cases e) ⟨nx, v, w', S', ρ', h1, h2, h3, h4, h5, .gd _ (fun _ => h6) fun h0 => by rw [hg] at h0; cases h0⟩ fun a' w' hs => hK _ a' w' hv.2 hs
   ·exact hv.elim
 ·split at hv
  ·rename_i ps x h
   rw [yt] at hv
   refine ⟨fun hg => ?_, fun hg => hK _ _ _ hv.2 (St.skip hM hF hD hg o.dst x)⟩
   obtain ⟨v, h1, h2⟩ := Su (e := a.eval) hM h (hv.1 hg) fun x _ => hF.ev x
   have hnd : ∀ c, o.op ≠ .defer c := fun c e => by
    rw [e] at h; simp [Z1, ZQ] at h
   refine VY hnd h1 (hK _ _ _ hv.2 ⟨S, ρ, ?_, hF.putO o.dst _ v (wrap hg h2), by rw [YZ]; exact hD⟩)
   cases o.dst <;> exact hM
  ·exact hv.elim
theorem PG (hO : zE P E.G) (hY : yD P E) {σ : zo} {o : Oper} {a : Act} {g : Bool} {k : zo → Prop} {K : Act → World → Prop} {Q : Exit → Act → World → Prop} (hv : rz P E.G g σ o k) (hst : St E σ a w)
  (hK : ∀ σ' a' w', k σ' → St E σ' a' w' → K a' w') : (g = true → o.wpIn (FW r) n P a w K Q) ∧ (g = false → K (a.put o.dst undef) w) := by
 unfold rz at hv
 split at hv
 ·rename_i fo args ts ho
  have nd : ∀ c, o.op ≠ .defer c := fun c e => by rw [ho] at e; cases e
  split at hv
  ·rename_i fid nf first nc cap hfn
   split at hv
   ·obtain ⟨S, ρ, hM, hF, hD⟩ := hst
    cases g with
    | true =>
     change y4 _ _ at hv
     rw [zd] at hv
     obtain ⟨hp, hv⟩ := hv
     refine ⟨fun _ => ?_, fun hg => (by cases hg)⟩
     obtain ⟨vs, us, hfv, hl⟩ := P5 hF hfn hp
     obtain ⟨he, hc⟩ := Ud (K := fun v w' => K (a.put o.dst v) w') hO hv hM hF hD hl fun σ' x v w' S' ρ' hk h1 h2 h3 h4 => by
      refine hK _ _ _ hk ⟨S', ρ', ?_, h2.putO o.dst _ v (.gd _ (fun _ => h4) fun h0 => by cases h0), by rw [YZ]; exact h3⟩
      cases o.dst <;> exact h1
     exact vA nd (TQ ho hfv he) hc
    | false => exact ⟨fun hg => (by cases hg), fun hg => hK _ _ _ hv (St.skip hM hF hD hg o.dst _)⟩
   ·exact V4 hO hv hst hK
  ·rename_i p hfn
   split at hv
   ·rename_i T hT
    obtain ⟨S, ρ, hM, hF, hD⟩ := hst
    cases g with
    | true =>
     change y4 _ _ at hv
     rw [zd] at hv
     refine ⟨fun _ => ?_, fun hg => (by cases hg)⟩
     have h1 : zF w S ρ (.yl p) (a.eval fo) := hfn ▸ yL hF fun q hq => hv.1 q (List.mem_append_left _ hq)
     have hl := Yu hF fun q hq => hv.1 q (List.mem_append_right _ hq)
     obtain ⟨g, fn, tmps, as, bd, hv1, hrun, hround⟩ := hY.at_ p T hT E _ _ _ _ _ _ _ _ _ rfl (hY.ext hM) hM hl h1 hv.2
     refine tX nd (SZ ho hv1 hrun) ((hround r (n - 1)).mono ?_)
     rintro e w' ⟨nb', bl', S', ρ', x, rv, rfl, hk, hM', hS, hle, hR⟩
     refine ⟨rv, rfl, hK _ _ _ hk ⟨S', ρ', ?_, (Yq.putO (σ := { σ with nb := nb', bl := bl' }) (hF.mono hS hle) o.dst _ rv (.gd _ (fun _ => hR) fun h0 => by cases h0)), by rw [YZ]; exact hD.mono hS⟩⟩
     cases o.dst <;> exact hM'
    | false => exact ⟨fun hg => (by cases hg), fun hg => hK _ _ _ hv (St.skip hM hF hD hg o.dst _)⟩
   ·exact hv.elim
  ·exact V4 hO hv hst hK
 ·exact V4 hO hv hst hK
theorem TI (hO : zE P E.G) (hY : yD P E) {σ : zo} {o : Oper} {a : Act} {g : Bool} {k : zo → Prop} {K : Act → World → Prop} {Q : Exit → Act → World → Prop}
  (hv : match E.G.conc && !g with | true => k (σ.put o.dst (.gd false (tU P o.type))) | false => rz P E.G g σ o k) (hst : St E σ a w)
  (hK : ∀ σ' a' w', k σ' → St E σ' a' w' → K a' w') : (g = true → o.wpIn (FW r) n P a w K Q) ∧ (g = false → K (a.put o.dst undef) w) := by
 cases hc : E.G.conc && !g with
 | false => rw [hc] at hv; exact PG hO hY hv hst hK
 | true =>
  rw [hc] at hv
  simp only [Bool.and_eq_true, Bool.not_eq_true'] at hc
  obtain ⟨S, ρ, hM, hF, hD⟩ := hst
  have hg := hc.2
  subst hg
  exact ⟨fun hg => (by cases hg), fun hg => hK _ _ _ hv (St.skip hM hF hD rfl o.dst _)⟩
theorem ua (hO : zE P E.G) (hY : yD P E) {ops : List Oper} {Q : Exit → Act → World → Prop} : ∀ (rest : List Oper) (i : Nat) {σ : zo} {a : Act} {w : World} {k : zo → Prop}, (∀ j, rest[j]? = ops[i + j]?) → Ux P E.G ops rest σ k → St E σ a w →
  (∀ σ' a' w', k σ' → St E σ' a' w' → Q .normal a' w') → wpOpsIn (FW r) n P ops.toArray Q (List.range' i rest.length) a w
 | [], i, σ, a, w, k, _, hv, hst, hK => hK _ _ _ hv hst
 | o :: rest, i, σ, a, w, k, hi, hv, hst, hK => by
  have h0 : ops[i]? = some o := by simpa using (hi 0).symm
  have hrest : ∀ j, rest[j]? = ops[i + 1 + j]? := fun j => by
   have := hi (j + 1)
   grind
  have key : ∀ σ' a' w', Ux P E.G ops rest σ' k → St E σ' a' w' → wpOpsIn (FW r) n P ops.toArray Q (List.range' (i + 1) rest.length) a' w' :=
   fun σ' a' w' hv' hst' => ua hO hY rest (i + 1) hrest hv' hst' hK
  simp only [List.length_cons, List.range'_succ, wpOpsIn, List.getElem?_toArray, h0]
  simp only [Ux, wO] at hv
  cases hg : o.guard with
  | none =>
   rw [hg] at hv
   simp only [Region.wanted, hg, if_true]
   exact SU hO hY hv hst key
  | some jw =>
   obtain ⟨j, want⟩ := jw
   rw [hg] at hv
   simp only at hv
   split at hv
   ·rename_i g hga
    have hw : Region.wanted o (yielded ops.toArray a.tmps) = g := by
     obtain ⟨S, ρ, _, hF, _⟩ := hst
     simp only [Region.wanted, hg]
     exact UY hga hF
    obtain ⟨h1, h2⟩ := TI (r := r) (n := n) (Q := Q) hO hY hv hst key
    rw [hw]
    cases g with
    | true => simp_all
    | false => rw [if_neg (by simp)]; exact ⟨fun _ _ => trivial, h2 rfl⟩
   ·exact hv.elim
theorem ru (hO : zE P E.G) (hY : yD P E) {id : Nat} {ops : Array Oper} {σ : zo} {a : Act} {k : zo → Prop} {Q : Exit → Act → World → Prop} (hv : Ux P E.G ops.toList ops.toList σ k) (hst : St E σ a w)
  (hK : ∀ σ' a' w', k σ' → St E σ' a' w' → Q .normal a' w') : (Code.region id ops false).wpIn (FW r) n P Q a w := by
 refine wpIn_region ?_
 rw [List.range_eq_range', ← Array.length_toList]
 have := ua hO hY (r := r) (n := n) (Q := Q) ops.toList 0 (by simp) hv hst hK
 omega
end
end Go.Sx
