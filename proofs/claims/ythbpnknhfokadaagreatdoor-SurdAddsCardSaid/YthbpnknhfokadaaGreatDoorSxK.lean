/- The verification condition of one operation, of a region carried out in order. -/
import Derived.Test.YthbpnknhfokadaaGreatDoorSxJ
import Derived.TacticsIn
set_option linter.unusedSimpArgs false
set_option linter.unusedVariables false
namespace Go.Sx
open Go Go.RowKit
def wE (ex : TypeId → (AV → Prop) → Prop) : List TypeId → (List AV → Prop) → Prop
 | [], k => k []
 | t :: ts, k => ex t fun v => wE ex ts fun vs => k (v :: vs)
def VG (P : Program) : Nat → TypeId → (AV → Prop) → Prop
 | 0, _, k => ∃ r, k r
 | n + 1, t, k =>
  match P.underlying t with
  | some (.int kd) => ∃ x : Int, k (.v (.int kd x))
  | some .bool => ∃ x : Bool, k (.v (.bool x))
  | some .string => ∃ l : List UInt8, k (.str l)
  | some (.slice _) => ∃ (f : Bool) (sz len : Nat) (els : Nat → Nat → AV), k (.xl f sz len els)
  | some (.tuple ts) => wE (VG P n) ts.toList fun vs => k (.tup vs.length (zw vs))
  | _ => ∃ r, k r
theorem VN {ex : TypeId → (AV → Prop) → Prop} (hex : ∀ t k, ex t k → ∃ r, k r) : ∀ (ts : List TypeId) (k : List AV → Prop), wE ex ts k → ∃ vs, k vs
 | [], k, h => ⟨[], h⟩
 | t :: ts, k, h => by
  obtain ⟨v, hv⟩ := hex t _ h
  obtain ⟨vs, hvs⟩ := VN hex ts _ hv
  grind
theorem TR {P : Program} : ∀ (n : Nat) (t : TypeId) (k : AV → Prop), VG P n t k → ∃ r, k r
 | 0, t, k, h => h
 | n + 1, t, k, h => by
  unfold VG at h
  split at h
  ·grind
  ·grind
  ·grind
  ·grind
  ·obtain ⟨vs, hvs⟩ := VN (TR n) _ _ h
   grind
  ·exact h
def QB (P : Program) : Nat → TypeId → Bool
 | 0, _ => false
 | n + 1, t =>
  match P.underlying t with
  | some (.int _) | some .bool | some .string => true
  | some (.tuple ts) => ts.toList.all (QB P n)
  | _ => false
theorem VM {ex : TypeId → (AV → Prop) → Prop} {sc : TypeId → Bool} (hex : ∀ t k, sc t = true → ex t k → ∃ r, r.scalar = true ∧ k r) :
  ∀ (ts : List TypeId) (k : List AV → Prop), ts.all sc = true → wE ex ts k → ∃ vs : List AV, (∀ v ∈ vs, v.scalar = true) ∧ k vs
 | [], k, _, h => ⟨[], fun _ hv => (by cases hv), h⟩
 | t :: ts, k, hs, h => by
  simp only [List.all_cons, Bool.and_eq_true] at hs
  obtain ⟨v, h1, hv⟩ := hex t _ hs.1 h
  obtain ⟨vs, h2, hvs⟩ := VM hex ts _ hs.2 hv
  grind
theorem lD {f : Nat → Bool} {n : Nat} (h : ∀ i, i < n → f i = false) : uA f n = false := by
 induction n with
 | zero => rfl
 | succ n ih => simp only [uA, Bool.or_eq_false_iff]; exact ⟨ih fun i hi => h i (by omega), h n (by omega)⟩
theorem tE {P : Program} : ∀ (n : Nat) (t : TypeId) (k : AV → Prop), QB P n t = true → VG P n t k → ∃ r : AV, r.scalar = true ∧ k r
 | 0, t, k, hs, h => by cases hs
 | n + 1, t, k, hs, h => by
  unfold QB at hs
  unfold VG at h
  split at hs
  ·rename_i kd hu
   rw [hu] at h
   obtain ⟨x, hx⟩ := h; exact ⟨_, rfl, hx⟩
  ·rename_i hu
   rw [hu] at h
   obtain ⟨x, hx⟩ := h; exact ⟨_, rfl, hx⟩
  ·rename_i hu
   rw [hu] at h
   obtain ⟨x, hx⟩ := h; exact ⟨_, rfl, hx⟩
  ·rename_i ts hu
   rw [hu] at h
   obtain ⟨vs, h1, hvs⟩ := VM (tE n) _ _ hs h
   refine ⟨_, ?_, hvs⟩
   simp only [AV.scalar, Bool.not_eq_true']
   refine lD fun i hi => ?_
   simp only [zw, List.getElem?_eq_getElem hi, Option.getD_some, Bool.not_eq_false']
   simp_all
  ·cases hs
def zr (want t : Bool) : Bool := bif want then t else !t
def Yz (ops : List Oper) (σ : zK) (j : Nat) (want : Bool) : Option Bool :=
 match ops[j]? with
 | some o =>
  match o.dst with
  | some d =>
   if d < σ.n then
    match σ.tm d with
    | .v (.bool t) => some (zr want t)
    | .gd g (.v (.bool t)) => some (g && zr want t)
    | _ => none
   else none
  | none => none
 | none => none
theorem ry (want t : Bool) : ((some t : Option Bool) == some want) = zr want t := by cases want <;> cases t <;> rfl
theorem Vk {ops : List Oper} {σ : zK} {j : Nat} {want g : Bool} {w : World} {S : Nat → Prop} {ρ : Nat → Own} {a : Act} (h : Yz ops σ j want = some g)
  (hF : Yg w S ρ σ.n σ.tm a) : (yielded ops.toArray a.tmps j == some want) = g := by
 unfold Yz at h
 split at h
 ·rename_i o ho
  split at h
  ·rename_i d hd
   split at h
   ·rename_i hlt
    have hr := hF.2 d hlt
    have hy : yielded ops.toArray a.tmps j = match a.tmps.getD d undef with | .bool b => some b | _ => none := by
     unfold yielded
     have hsz : d < a.tmps.size := by rw [hF.1]; exact hlt
     simp only [List.getElem?_toArray, ho, Option.bind_some, hd, Array.getD_eq_getD_getElem?, Array.getElem?_eq_getElem hsz, Option.getD_some]
     cases a.tmps[d] <;> rfl
    split at h
    ·rename_i t ht
     cases h
     rw [ht] at hr
     rw [hy, Zr hr]
     exact ry want t
    ·rename_i g0 t ht
     cases h
     rw [ht] at hr
     cases hr with
     | gd v h1 h2 =>
      cases g0 with
      | true =>
       rw [hy, Zr (h1 rfl)]
       exact ry want t
      | false =>
       rw [hy, h2 rfl]
       rfl
    ·cases h
   ·cases h
  ·cases h
 ·cases h
def AV.refs : AV → List Nat
 | .np k _ | .ns k _ _ | .ap k _ _ | .ps k _ => [k]
 | .agg n cs => (List.range n).flatMap fun i => (cs i).refs
 | .tup n cs => (List.range n).flatMap fun i => (cs i).refs
 | .fn _ nf f nc c => ((List.range nf).flatMap fun i => (f i).refs) ++ (List.range nc).flatMap fun i => (c i).refs
 | .gd _ x => x.refs
 | _ => []
def Sd (bl : Nat → OB) (x : AV) : List Nat :=
 x.refs.flatMap fun k => (match bl k with
  | .box _ n cells => (List.range n).flatMap fun i => (cells i).refs
  | _ => []) ++ [k]
def u7 : List Nat → zK → List AV → Option (zK × List AV)
 | [], σ, xs => some (σ, xs)
 | k :: ks, σ, xs => if k < σ.nb then u7 ks (σ.frz k) (xs.map fun x => x.frz σ.bl k) else none
def YC (σ : zK) (xs : List AV) : Option (zK × List AV) :=
 if xs.any AV.hasOwn then u7 (xs.flatMap (Sd σ.bl)) σ xs else some (σ, xs)
def W7 (σ : zK) (x p : AV) : Option (zK × List AV) :=
 if x.hasOwn then u7 (Sd σ.bl x) σ [x, p] else some (σ, [x, p])
def yd (nf : Nat) (first : Nat → AV) (args : List AV) (nc : Nat) (cap : Nat → AV) : List AV :=
 (List.range nf).map first ++ args ++ (List.range nc).map cap
def Sf (g : Bool) (ps : List zn) (k : Prop) : Prop := Yo (ps.map fun p => p.under g) k
def gT : Option Bool → Prop
 | none => True
 | some g => g = true
def OV (g : Option Bool) (ps : List zn) (k : Prop) : Prop :=
 match g with
 | none => Yo ps k
 | some g => Sf g ps k
def ic (P : Program) (G : Cx) (g : Option Bool) (f : FuncId) (xs : List AV) (r : AV) : Prop :=
 match g with
 | none => zt P G.objs f xs r
 | some g => g = true → zt P G.objs f xs r
def xm (P : Program) (G : Cx) (g : Option Bool) (f : FuncId) (xs : List AV) (t : TypeId) (K : AV → Prop) : Prop :=
 match G.pu f xs with
 | some (ps, r) => OV g ps (K r)
 | none => VG P 3 t fun r => ic P G g f xs r ∧ K r
def wP (P : Program) (G : Cx) (f : FuncId) (xs : List AV) (t : TypeId) : Bool :=
 match G.pu f xs with
 | some (_, r) => r.scalar
 | none => QB P 3 t
def inl (G : Cx) (f : FuncId) (xs : List AV) : Bool := (G.own f).isSome && (G.pu f xs).isNone
def uD (P : Program) (t : TypeId) : AV :=
 match P.info? t with
 | some it => (match it.zero with
  | some z => bif Nat.beq z.cells.size 1 then .v (z.cells.getD 0 undef) else .junk
  | none => .junk)
 | none => .junk
def wt (P : Program) (G : Cx) (g : Option Bool) (f : FuncId) (xs : List AV) (t : TypeId) (K : AV → Prop) : Prop :=
 match inl G f xs with
 | true => (match g with | some false => K (uD P t) | _ => Ze f)
 | false => xm P G g f xs t K
def WE (G : Cx) (σ : zK) (f : FuncId) (xs : List AV) (k : zK → AV → Prop) : Prop :=
 match G.own f with
 | some T => T σ.nb σ.bl xs fun nb' bl' r => k { σ with nb := nb', bl := bl' } r
 | none => Ze f
def YG (G : Cx) (σ : zK) (f : FuncId) (xs : List AV) : Option (List zn × zK × AV) :=
 match G.fre f xs with
 | some (ps, t, sz, len, els) => some (ps, σ.add (.arr t sz len els), .ns σ.nb 0 len)
 | none => none
def wg (P : Program) (G : Cx) (σ : zK) (f : FuncId) (xs : List AV) (t : TypeId) (dst : Option Tmp) (k : zK → Prop) : Prop :=
 if xs.any AV.hasOwn then
  match G.own f with
  | some T => T σ.nb σ.bl xs fun nb' bl' r => k (({ σ with nb := nb', bl := bl' } : zK).put dst r)
  | none =>
   if wP P G f (xs.map (lend σ.bl)) t then xm P G none f (xs.map (lend σ.bl)) t fun r => k (σ.put dst r)
   else
    match YC σ xs with
    | some (σ', xs') =>
     if xs'.any AV.hasOwn then Ze f
     else
      match YG G σ' f xs' with
      | some (ps, σ1, r) => Yo ps (k (σ1.put dst r))
      | none => xm P G none f xs' t fun r => k (σ'.put dst r)
    | none => Ze f
 else
  match YG G σ f xs with
  | some (ps, σ1, r) => Yo ps (k (σ1.put dst r))
  | none =>
   match inl G f xs with
   | true => WE G σ f xs fun σ' r => k (σ'.put dst r)
   | false => xm P G none f xs t fun r => k (σ.put dst r)
def Zc (σ : zK) (l : List Operand) : List zn := l.flatMap fun x => (σ.ev x).gprop
def zK.sv (σ : zK) (x : Operand) : AV := (σ.ev x).strip
def kM (P : Program) (G : Cx) (σ : zK) (o : Oper) (k : zK → Prop) : Prop :=
 match o.op with
 | .alloc elem =>
  match xt P σ elem with
  | some (σ', r) => k (σ'.put o.dst r)
  | none => Ze o
 | .box t x =>
  match wO σ t (σ.sv x) with
  | some (σ', r) => Yo (σ.ev x).gprop (k (σ'.put o.dst r))
  | none => Ze o
 | .store t p x =>
  match (match σ.sv p with | .ap _ _ _ => W7 σ (σ.sv x) (σ.sv p) | _ => some (σ, [σ.sv x, σ.sv p])) with
  | some (σ1, [x', p']) =>
   match Ux P σ1 t p' x' with
   | some σ' => Yo ((σ.ev p).gprop ++ (σ.ev x).gprop) (k (σ'.put o.dst .junk))
   | none => Ze o
  | _ => Ze o
 | .buildSlice t len parts =>
  match W8 P σ t len (parts.toList.map (·.1)) (parts.toList.map (·.2)) (parts.toList.map fun p => σ.sv p.2) with
  | some (σ', r) => Yo (Zc σ (parts.toList.map (·.2))) (k (σ'.put o.dst r))
  | none =>
  match YC σ (parts.toList.map fun p => σ.sv p.2) with
  | some (σ1, xs) =>
   match ZM P σ1 t len (parts.toList.map (·.1)) xs with
   | some (σ', r) => Yo (Zc σ (parts.toList.map (·.2))) (k (σ'.put o.dst r))
   | none => Ze o
  | none => Ze o
 | .makeSlice t l c =>
  match yq P σ t (σ.sv l) (σ.sv c) with
  | some (ps, σ', r) => Yo ((σ.ev l).gprop ++ (σ.ev c).gprop ++ ps) (k (σ'.put o.dst r))
  | none => Ze o
 | .call { callee := .value f, args, .. } =>
  match σ.sv f with
  | .fn (.func fid) nf first nc cap =>
   Yo ((σ.ev f).gprop ++ Zc σ args.toList) (wg P G σ fid (yd nf first (args.toList.map σ.sv) nc cap) o.type o.dst k)
  | .yl p =>
   match G.yld p with
   | some T => Yo ((σ.ev f).gprop ++ Zc σ args.toList) (T σ.nb σ.bl (args.toList.map σ.sv) fun nb' bl' r => k (({ σ with nb := nb', bl := bl' } : zK).put o.dst r))
   | none => Ze o
  | _ => Ze o
 | .call { callee := .builtin .append, args, argTypes } =>
  match args.toList, argTypes.toList with
  | [s, x], [t, t'] =>
   if t = t' then
    match y7 P σ t (σ.sv s) (σ.sv x) with
    | some (ps, σ', r) => Yo ((σ.ev s).gprop ++ (σ.ev x).gprop ++ ps) (k (σ'.put o.dst r))
    | none => Ze o
   else
    match vf P σ t t' (σ.sv s) (σ.sv x) with
    | some (ps, σ', r) => Yo ((σ.ev s).gprop ++ (σ.ev x).gprop ++ ps) (k (σ'.put o.dst r))
    | none => Ze o
  | _, _ => Ze o
 | op =>
  match yh P G.objs σ.bl σ.ev op with
  | some (ps, r) => Yo ps (k (σ.put o.dst r))
  | none => Ze o
def Sq (P : Program) (G : Cx) (g : Bool) (σ : zK) (o : Oper) (k : zK → Prop) : Prop :=
 match o.op with
 | .call { callee := .value f, args, .. } =>
  match σ.sv f with
  | .fn (.func fid) nf first nc cap =>
   Sf g ((σ.ev f).gprop ++ Zc σ args.toList) <|
    if (yd nf first (args.toList.map σ.sv) nc cap).any AV.hasOwn then
     match inl G fid (yd nf first (args.toList.map σ.sv) nc cap) with
     | true => (match g with | false => k (σ.put o.dst (.gd g (uD P o.type))) | true => Ze o)
     | false => if wP P G fid ((yd nf first (args.toList.map σ.sv) nc cap).map (lend σ.bl)) o.type then xm P G (some g) fid ((yd nf first (args.toList.map σ.sv) nc cap).map (lend σ.bl)) o.type fun r => k (σ.put o.dst (.gd g r)) else Ze o
    else wt P G (some g) fid (yd nf first (args.toList.map σ.sv) nc cap) o.type fun r => k (σ.put o.dst (.gd g r))
  | _ => Ze o
 | .buildSlice t len parts =>
  if ((parts.toList.map fun p => σ.sv p.2).any AV.hasOwn || VX (parts.toList.map (·.2))) = true then Ze o
  else
   match ZM P σ t len (parts.toList.map (·.1)) (parts.toList.map fun p => σ.sv p.2) with
   | some (_, r) => Sf g (Zc σ (parts.toList.map (·.2))) (k (σ.put o.dst (.gd g r)))
   | none => Ze o
 | op =>
  match yh P G.objs σ.bl σ.ev op with
  | some (ps, r) => Sf g ps (k (σ.put o.dst (.gd g r)))
  | none => Ze o
def zZ (t : Bool) (A B : Prop) : Prop :=
 match t with
 | true => A
 | false => B
theorem zX {t : Bool} {A B : Prop} : zZ t A B ↔ (t = true → A) ∧ (t = false → B) := by
 cases t <;> simp [zZ]
def TI (P : Program) (G : Cx) (g : Bool) (σ : zK) (o : Oper) (k : zK → Prop) : Prop :=
 match o.op with
 | .call { callee := .value f, args, .. } =>
  match σ.sv f with
  | .fn (.func fid) nf first nc cap =>
   match inl G fid (yd nf first (args.toList.map σ.sv) nc cap) with
   | true => zZ g (Yo ((σ.ev f).gprop ++ Zc σ args.toList) (WE G σ fid (yd nf first (args.toList.map σ.sv) nc cap) fun σ' r => k (σ'.put o.dst (.gd true r)))) (k (σ.put o.dst (.gd false (uD P o.type))))
   | false => Sq P G g σ o k
  | .yl p =>
   match G.yld p with
   | some T => zZ g (Yo ((σ.ev f).gprop ++ Zc σ args.toList) (T σ.nb σ.bl (args.toList.map σ.sv) fun nb' bl' r => k (({ σ with nb := nb', bl := bl' } : zK).put o.dst (.gd true r)))) (k (σ.put o.dst (.gd false (.v (.bool false)))))
   | none => Ze o
  | _ => Sq P G g σ o k
 | _ => Sq P G g σ o k
def U4 (P : Program) (G : Cx) (ops : List Oper) (o : Oper) (σ : zK) (k : zK → Prop) : Prop :=
 match o.guard with
 | none => kM P G σ o k
 | some (j, want) =>
  match Yz ops σ j want with
  | some g =>
   match G.conc && !g with
   | true => k (σ.put o.dst (.gd false (uD P o.type)))
   | false => TI P G g σ o k
  | none => Ze o
def Vo (P : Program) (G : Cx) (ops : List Oper) : List Oper → zK → (zK → Prop) → Prop
 | [], σ, k => k σ
 | o :: rest, σ, k => U4 P G ops o σ fun σ' => Vo P G ops rest σ' k
end Go.Sx

namespace Go.Sx
open Go Go.RowKit
def FW (r : Option Nat) : Fence := { Fence.wide with round := r }
theorem Xl {r : Option Nat} {n : Nat} {P : Program} {f : FuncId} {args : Array Value} {w : World} {R : Ending → World → Prop} :
  CallsIn (FW r) n P f args w R ↔ Calls P f args w R := callsIn_wide (n := n)
section
variable {P : Program} {E : Env} {S : Nat → Prop} {ρ : Nat → Own} {w : World} {r : Option Nat} {n : Nat}
theorem WI {o : Oper} {a : Act} {K : Act → World → Prop} {Q : Exit → Act → World → Prop} {v : Value} {w' : World} (hnd : ∀ c, o.op ≠ .defer c)
  (hrun : (execOp a.eval o).run P w = .ok (.value v) w') (h : K (a.put o.dst v) w') : o.wpIn (FW r) n P a w K Q := by
 refine ⟨fun _ _ => trivial, ?_⟩
 rw [Oper.semAt_eq _ _ _ hnd, hrun]
 exact h
theorem RA {o : Oper} {a : Act} {K : Act → World → Prop} {Q : Exit → Act → World → Prop} {w' : World} (hnd : ∀ c, o.op ≠ .defer c)
  (hrun : (execOp a.eval o).run P w = .ok .skip w') (h : K (a.put o.dst undef) w') : o.wpIn (FW r) n P a w K Q := by
 refine ⟨fun _ _ => trivial, ?_⟩
 rw [Oper.semAt_eq _ _ _ hnd, hrun]
 exact h
theorem Wc {o : Oper} {a : Act} {K : Act → World → Prop} {Q : Exit → Act → World → Prop} {f : FuncId} {args : Array Value} (hnd : ∀ c, o.op ≠ .defer c)
  (hrun : (execOp a.eval o).run P w = .ok (.enter f args) w) (h : Calls P f args w fun e w' => ∃ v, e = .returned v ∧ K (a.put o.dst v) w') : o.wpIn (FW r) n P a w K Q := by
 refine ⟨fun _ _ => trivial, ?_⟩
 rw [Oper.semAt_eq _ _ _ hnd, hrun]
 refine ⟨(fun h => by cases h), Xl.2 (h.mono ?_)⟩
 simp_all
theorem Yd {o : Oper} {a : Act} {K : Act → World → Prop} {Q : Exit → Act → World → Prop} {σ' : zK} {x : AV} (hnd : ∀ c, o.op ≠ .defer c) (h : Eff P E a.eval o a w σ' x)
  (hK : ∀ a' w', St E (σ'.put o.dst x) a' w' → K a' w') : o.wpIn (FW r) n P a w K Q := by
 obtain ⟨nx, v, w', S', ρ', hrun, hnx, hM, hF, hD, hR⟩ := h
 have hst : St E (σ'.put o.dst x) (a.put o.dst v) w' := by
  refine ⟨S', ρ', ?_, hF.putO o.dst x v hR, by rw [Yt]; exact hD⟩
  cases o.dst <;> exact hM
 rcases hnx with rfl | ⟨rfl, rfl⟩
 ·exact WI hnd hrun (hK _ _ hst)
 ·exact RA hnd hrun (hK _ _ hst)
theorem UW {o : Oper} {a : Act} {K : Act → World → Prop} {Q : Exit → Act → World → Prop} {l : Nat} {f : FuncId} {tmps : Array Value} {as bd : Code} (hnd : ∀ c, o.op ≠ .defer c)
  (hrun : (execOp a.eval o).run P w = .ok (.round l f tmps as bd) w) (h : RoundIn (FW r) (n - 1) P l f tmps as bd w fun e w' => ∃ v, e = .returned v ∧ K (a.put o.dst v) w') : o.wpIn (FW r) n P a w K Q := by
 refine ⟨fun _ _ => trivial, ?_⟩
 rw [Oper.semAt_eq _ _ _ hnd, hrun]
 refine ⟨(fun h => by cases h), h.mono ?_⟩
 simp_all
theorem tV {o : Oper} {fo : Operand} {args : Array Operand} {ts : Array TypeId} {e : Operand → Value} {g : Nat} {fn : FuncId} {tmps : Array Value} {as bd : Code}
  (ho : o.op = .call { callee := .value fo, args, argTypes := ts }) (hf : e fo = .func (.yield g) #[] #[]) (he : (Instr.yield g (args.toList.map e).toArray).run P w = .ok (.round g fn tmps as bd) w) :
  (execOp e o).run P w = .ok (.round g fn tmps as bd) w := by
 simp only [execOp, ho, resolve, hf, Deferred.ofValue, Sem.run_bind, Sem.run_pure, Result.andThen_ok, invoke]
 rw [← he]
 congr 2
 grind
theorem ZG.frz {bl : Nat → OB} {k : Nat} {S' : Nat → Prop} {ρ' : Nat → Own} {xs : List AV} {vs : List Value} (h : ZG w S ρ xs vs)
  (hh : ∀ x v, zf w S ρ x v → zf w S' ρ' (x.frz bl k) v) : ZG w S' ρ' (xs.map fun x => x.frz bl k) vs := by
 induction xs generalizing vs with
 | nil => cases vs <;> exact h
 | cons x xs ih => cases vs with
  | nil => exact h.elim
  | cons v vs => exact ⟨hh _ _ h.1, ih h.2⟩
theorem vU {ks : List Nat} {σ σ' : zK} {xs xs' : List AV} {vs : List Value} {a : Act} (h : u7 ks σ xs = some (σ', xs')) (hM : Mem E σ.nb σ.bl S ρ w) (hF : Yg w S ρ σ.n σ.tm a)
  (hD : Wt E.w0.heap.size w S a.defers) (hx : ZG w S ρ xs vs) :
  ∃ S' ρ', Mem E σ'.nb σ'.bl S' ρ' w ∧ Yg w S' ρ' σ'.n σ'.tm a ∧ Wt E.w0.heap.size w S' a.defers ∧ ZG w S' ρ' xs' vs := by
 induction ks generalizing σ xs S ρ with
 | nil => cases h; exact ⟨S, ρ, hM, hF, hD, hx⟩
 | cons k ks ih =>
  simp only [u7] at h
  split at h
  ·rename_i hk
   obtain ⟨S', h1, h2, h3, h4⟩ := PV hM hF hk
   exact ih h h1 h2 (hD.mono fun b hb => ⟨h3 b hb, rfl⟩) (hx.frz h4)
  ·cases h
theorem xA {σ σ' : zK} {xs xs' : List AV} {vs : List Value} {a : Act} (h : YC σ xs = some (σ', xs')) (hM : Mem E σ.nb σ.bl S ρ w) (hF : Yg w S ρ σ.n σ.tm a)
  (hD : Wt E.w0.heap.size w S a.defers) (hx : ZG w S ρ xs vs) :
  ∃ S' ρ', Mem E σ'.nb σ'.bl S' ρ' w ∧ Yg w S' ρ' σ'.n σ'.tm a ∧ Wt E.w0.heap.size w S' a.defers ∧ ZG w S' ρ' xs' vs := by
 unfold YC at h
 split at h
 ·exact vU h hM hF hD hx
 grind
theorem ue {σ σ' : zK} {x p : AV} {xs' : List AV} {vs : List Value} {a : Act} (h : W7 σ x p = some (σ', xs')) (hM : Mem E σ.nb σ.bl S ρ w) (hF : Yg w S ρ σ.n σ.tm a)
  (hD : Wt E.w0.heap.size w S a.defers) (hx : ZG w S ρ [x, p] vs) :
  ∃ S' ρ', Mem E σ'.nb σ'.bl S' ρ' w ∧ Yg w S' ρ' σ'.n σ'.tm a ∧ Wt E.w0.heap.size w S' a.defers ∧ ZG w S' ρ' xs' vs := by
 unfold W7 at h
 split at h
 ·exact vU h hM hF hD hx
 grind
structure UB (P : Program) (objs : List (Nat × Obj)) (f : FuncId) (T : Nat → (Nat → OB) → List AV → (Nat → (Nat → OB) → AV → Prop) → Prop) : Prop where
 enters : ∀ args w, (callFunc f args).run P w = .ok (.enter f args) w
 mono : ∀ nb bl xs (k k' : Nat → (Nat → OB) → AV → Prop), (∀ nb bl x, k nb bl x → k' nb bl x) → T nb bl xs k → T nb bl xs k'
 sound : ∀ (E : Env) nb bl S ρ w xs vs k, E.G.objs = objs → Mem E nb bl S ρ w → ZG w S ρ xs vs → T nb bl xs k →
  Calls P f vs.toArray w fun e w' => ∃ nb' bl' S' ρ' x rv, e = .returned rv ∧ k nb' bl' x ∧ Mem E nb' bl' S' ρ' w' ∧ (∀ b, S b → S' b ∧ w'.heap[b]? = w.heap[b]?) ∧ zI ρ ρ' ∧ zf w' S' ρ' x rv
structure Zz (P : Program) (G : Cx) : Prop where
 own : ∀ f T, G.own f = some T → UB P G.objs f T
 pu : ∀ f xs ps r, G.pu f xs = some (ps, r) → (∀ p ∈ ps, p.holds) → zt P G.objs f xs r
 fre : ∀ f xs ps t sz len els, G.fre f xs = some (ps, t, sz, len, els) → (∀ p ∈ ps, p.holds) → yt P G.objs f xs t sz len els
 mono : ∀ p T, G.yld p = some T → ∀ nb bl xs (k k' : Nat → (Nat → OB) → AV → Prop), (∀ nb bl x, k nb bl x → k' nb bl x) → T nb bl xs k → T nb bl xs k'
def LH (E : Env) (S : Nat → Prop) (ρ : Nat → Own) (w : World) (k : Nat → (Nat → OB) → AV → Prop) (e : Ending) (w' : World) : Prop :=
 ∃ nb' bl' S' ρ' x rv, e = .returned rv ∧ k nb' bl' x ∧ Mem E nb' bl' S' ρ' w' ∧ (∀ b, S b → S' b ∧ w'.heap[b]? = w.heap[b]?) ∧ zI ρ ρ' ∧ zf w' S' ρ' x rv
structure jc (w0 : World) (S0 : Nat → Prop) (ρ0 : Nat → Own) (w : World) (S : Nat → Prop) (ρ : Nat → Own) : Prop where
 S : ∀ b, S0 b → S b ∧ w.heap[b]? = w0.heap[b]?
 le : zI ρ0 ρ
def Tp (P : Program) (objs : List (Nat × Obj)) (p : Nat) (T : Nat → (Nat → OB) → List AV → (Nat → (Nat → OB) → AV → Prop) → Prop) (w0 : World) (S0 : Nat → Prop) (ρ0 : Nat → Own) : Prop :=
 ∀ (E : Env) nb bl S ρ w xs vs k v, E.G.objs = objs → jc w0 S0 ρ0 w S ρ → Mem E nb bl S ρ w → ZG w S ρ xs vs → zf w S ρ (.yl p) v → T nb bl xs k →
  ∃ g fn tmps as bd, v = .func (.yield g) #[] #[] ∧ (Instr.yield g vs.toArray).run P w = .ok (.round g fn tmps as bd) w ∧ ∀ r n, RoundIn (FW r) n P g fn tmps as bd w (LH E S ρ w k)
structure YW (P : Program) (E : Env) : Prop where
 S0 : ∀ b, E.S0 b → b < E.w0.heap.size ∧ ¬ E.X b
 r0 : ∀ k, E.G.nb0 ≤ k → E.r0 k = .none
 at_ : ∀ p T, E.G.yld p = some T → Tp P E.G.objs p T E.w0 E.S0 E.r0
theorem YW.ext (hY : YW P E) {nb : Nat} {bl : Nat → OB} (hM : Mem E nb bl S ρ w) : jc E.w0 E.S0 E.r0 w S ρ :=
 ⟨fun b hb => ⟨hM.sup b hb, hM.fr.block b (hY.S0 b hb).1 (hY.S0 b hb).2⟩, fun k => by
  by_cases hk : k < E.G.nb0
  ·rcases hM.ole k hk with e | e
   all_goals simp_all
  ·exact .inr (.inr (hY.r0 k (Nat.not_lt.1 hk)))⟩
theorem ZG.append {xs ys : List AV} {vs us : List Value} (h1 : ZG w S ρ xs vs) (h2 : ZG w S ρ ys us) : ZG w S ρ (xs ++ ys) (vs ++ us) := by
 induction xs generalizing vs with
 | nil => cases vs with
  | nil => exact h2
  | cons => exact h1.elim
 | cons x xs ih => cases vs with
  | nil => exact h1.elim
  | cons v vs => exact ⟨h1.1, ih h1.2⟩
theorem ZG.ofArr {k : Nat} {f : Nat → AV} {vs : Array Value} (hn : vs.size = k) (h : ∀ i, i < k → zf w S ρ (f i) (vs.getD i undef)) : ZG w S ρ ((List.range k).map f) vs.toList := by
 obtain ⟨l⟩ := vs
 have hn' : l.length = k := by simpa using hn
 subst hn'
 clear hn
 induction l generalizing f with
 | nil => trivial
 | cons v l ih =>
  simp only [List.size_toArray, List.length_cons, List.range_succ_eq_map, List.map_cons, List.map_map]
  refine ⟨by simpa using h 0 (by simp), ih (f := f ∘ Nat.succ) fun i hi => ?_⟩
  have := h (i + 1) (by simp only [List.size_toArray, List.length_cons] at hi ⊢; omega)
  simp_all
theorem Ul {o : Oper} {fo : Operand} {args : Array Operand} {ts : Array TypeId} {e : Operand → Value} {f : FuncId} {vs us : Array Value}
  (ho : o.op = .call { callee := .value fo, args, argTypes := ts }) (hf : e fo = .func (.func f) vs us) (he : ∀ args w, (callFunc f args).run P w = .ok (.enter f args) w) :
  (execOp e o).run P w = .ok (.enter f (vs.toList ++ args.toList.map e ++ us.toList).toArray) w := by
 simp only [execOp, ho, resolve, hf, Deferred.ofValue, Sem.run_bind, Sem.run_pure, Result.andThen_ok, invoke, he]
 simp
theorem Ys {σ : zK} {l : List Operand} {a : Act} (hF : Yg w S ρ σ.n σ.tm a) (hp : ∀ p ∈ Zc σ l, p.holds) : ZG w S ρ (l.map σ.sv) (l.map a.eval) :=
 ZG.map fun x hx => (hF.ev x).strip fun p hp' => hp p (List.mem_flatMap.2 ⟨x, hx, hp'⟩)
theorem Qx {σ : zK} {a : Act} {fo : Operand} {args : Array Operand} {f : Fn} {nf nc : Nat} {first cap : Nat → AV} (hF : Yg w S ρ σ.n σ.tm a) (hf : σ.sv fo = .fn f nf first nc cap)
  (hp : ∀ p ∈ (σ.ev fo).gprop ++ Zc σ args.toList, p.holds) :
  ∃ vs us, a.eval fo = .func f vs us ∧ ZG w S ρ (yd nf first (args.toList.map σ.sv) nc cap) (vs.toList ++ args.toList.map a.eval ++ us.toList) := by
 have h1 := (hF.ev fo).strip fun p hp' => hp p (List.mem_append_left _ hp')
 rw [show (σ.ev fo).strip = σ.sv fo from rfl, hf] at h1
 obtain ⟨pv, hpv⟩ : ∃ pv, a.eval fo = pv := ⟨_, rfl⟩
 rw [hpv] at h1 ⊢
 cases h1 with
 | fn vs us hn hm hr hs =>
  exact ⟨vs, us, rfl, ((ZG.ofArr hn hr).append (Ys hF fun p hp' => hp p (List.mem_append_right _ hp'))).append (ZG.ofArr hm hs)⟩
theorem xH {xs : List AV} (h : xs.any AV.hasOwn = false) : ∀ x ∈ xs, x.hasOwn = false := fun x hx => by
 simp_all
theorem Xt {σ : zK} {a : Act} {f : FuncId} {x : AV} {vs : Array Value} {K : Act → World → Prop} {dst : Option Tmp} (hF : Yg w S ρ σ.n σ.tm a) (hD : Wt E.w0.heap.size w S a.defers)
  (h : Calls P f vs w (After E σ.nb σ.bl S ρ w x)) (hK : ∀ a' w', St E (σ.put dst x) a' w' → K a' w') : Calls P f vs w fun e w' => ∃ v, e = .returned v ∧ K (a.put dst v) w' := by
 refine h.mono ?_
 rintro e w' ⟨rv, S', rfl, hM, hS, hR⟩
 refine ⟨rv, rfl, hK _ _ ⟨S', ρ, ?_, (hF.mono hS (zI.refl _)).putO dst x rv hR, by rw [Yt]; exact hD.mono hS⟩⟩
 cases dst <;> exact hM
theorem yP (g : Bool) (ps : List zn) (k : Prop) : Sf g ps k ↔ (g = true → ∀ p ∈ ps, p.holds) ∧ k := by
 unfold Sf
 rw [ZP]
 constructor
 ·rintro ⟨h, hk⟩
  exact ⟨fun hg p hp => wM (h _ (List.mem_map.2 ⟨p, hp, rfl⟩)) hg, hk⟩
 ·rintro ⟨h, hk⟩
  refine ⟨fun q hq => ?_, hk⟩
  obtain ⟨p, hp, rfl⟩ := List.mem_map.1 hq
  cases g with
  | true =>
   have := h rfl p hp
   cases p with
   | b x => assumption
   | p x => exact fun _ => this
  | false =>
   cases p with
   | b x => rfl
   | p x => exact fun e => by cases e
theorem WL (hO : Zz P E.G) {g : Option Bool} {f : FuncId} {xs : List AV} {t : TypeId} {K : AV → Prop} (h : xm P E.G g f xs t K) :
  ∃ r, (gT g → zt P E.G.objs f xs r) ∧ K r := by
 unfold xm at h
 split at h
 ·rename_i ps r hpu
  cases g with
  | none =>
   have := (ZP _ _).1 h
   exact ⟨r, fun _ => hO.pu _ _ _ _ hpu this.1, this.2⟩
  | some g =>
   have := (yP _ _ _).1 h
   exact ⟨r, fun hg => hO.pu _ _ _ _ hpu (this.1 hg), this.2⟩
 ·obtain ⟨r, h1, h2⟩ := TR 3 t _ h
  cases g with
  | none => exact ⟨r, fun _ => h1, h2⟩
  | some g => exact ⟨r, h1, h2⟩
theorem Ue (hO : Zz P E.G) {g : Option Bool} {f : FuncId} {xs : List AV} {t : TypeId} {K : AV → Prop} (hl : wP P E.G f xs t = true) (h : xm P E.G g f xs t K) :
  ∃ r : AV, r.scalar = true ∧ (gT g → zt P E.G.objs f xs r) ∧ K r := by
 unfold wP at hl
 unfold xm at h
 split at h
 ·rename_i ps r hpu
  rw [hpu] at hl
  cases g with
  | none =>
   have := (ZP _ _).1 h
   exact ⟨r, hl, fun _ => hO.pu _ _ _ _ hpu this.1, this.2⟩
  | some g =>
   have := (yP _ _ _).1 h
   exact ⟨r, hl, fun hg => hO.pu _ _ _ _ hpu (this.1 hg), this.2⟩
 ·rename_i hpu
  rw [hpu] at hl
  obtain ⟨r, h0, h1, h2⟩ := tE 3 t _ hl h
  cases g with
  | none => exact ⟨r, h0, fun _ => h1, h2⟩
  | some g => exact ⟨r, h0, h1, h2⟩
theorem Uw (hO : Zz P E.G) {σ : zK} {a : Act} {f : FuncId} {xs : List AV} {vs : List Value} {k : zK → AV → Prop} {K : Value → World → Prop} (hv : WE E.G σ f xs k)
  (hM : Mem E σ.nb σ.bl S ρ w) (hF : Yg w S ρ σ.n σ.tm a) (hD : Wt E.w0.heap.size w S a.defers) (hx : ZG w S ρ xs vs)
  (hK : ∀ σ' x v w' S' ρ', k σ' x → Mem E σ'.nb σ'.bl S' ρ' w' → Yg w' S' ρ' σ'.n σ'.tm a → Wt E.w0.heap.size w' S' a.defers → zf w' S' ρ' x v → K v w') :
  (∀ args w, (callFunc f args).run P w = .ok (.enter f args) w) ∧ Calls P f vs.toArray w fun e w' => ∃ v, e = .returned v ∧ K v w' := by
 unfold WE at hv
 split at hv
 ·rename_i T hT
  have hOT := hO.own f T hT
  refine ⟨hOT.enters, (hOT.sound E _ _ _ _ _ _ _ _ rfl hM hx hv).mono ?_⟩
  rintro e w' ⟨nb', bl', S', ρ', x, rv, rfl, hk, hM', hS, hle, hR⟩
  exact ⟨rv, rfl, hK _ _ _ _ S' ρ' hk hM' (hF.mono hS hle) (hD.mono hS) hR⟩
 ·exact hv.elim
theorem Tt (hO : Zz P E.G) {σ σ1 : zK} {a : Act} {f : FuncId} {xs : List AV} {vs : List Value} {dst : Option Tmp} {k : zK → Prop} {K : Act → World → Prop} {ps : List zn} {r : AV}
  (he : YG E.G σ f xs = some (ps, σ1, r)) (hv : Yo ps (k (σ1.put dst r)))
  (hM : Mem E σ.nb σ.bl S ρ w) (hF : Yg w S ρ σ.n σ.tm a) (hD : Wt E.w0.heap.size w S a.defers) (hx : ZG w S ρ xs vs) (hno : ∀ x ∈ xs, x.hasOwn = false) (hK : ∀ σ' a' w', k σ' → St E σ' a' w' → K a' w') :
  (∀ args w, (callFunc f args).run P w = .ok (.enter f args) w) ∧ Calls P f vs.toArray w fun e w' => ∃ v, e = .returned v ∧ K (a.put dst v) w' := by
 unfold YG at he
 split at he
 ·rename_i ps' t sz len els hfre
  cases he
  rw [ZP] at hv
  have hc := hO.fre _ _ _ _ _ _ _ hfre hv.1
  refine ⟨hc.1, (qg hM hx hno hc).mono ?_⟩
  rintro e w' ⟨v, S', o, rfl, h1, h2, h3, h4⟩
  refine ⟨v, rfl, hK _ _ _ hv.2 ⟨S', _, ?_, Yg.putO (σ := σ.add (.arr t sz len els)) (hF.mono h3 h2) dst _ v h4, by rw [Yt]; exact hD.mono h3⟩⟩
  cases dst <;> exact h1
 ·cases he
theorem sk (hO : Zz P E.G) {σ : zK} {a : Act} {f : FuncId} {xs : List AV} {vs : List Value} {t : TypeId} {dst : Option Tmp} {k : zK → Prop} {K : Act → World → Prop} (hv : wg P E.G σ f xs t dst k)
  (hM : Mem E σ.nb σ.bl S ρ w) (hF : Yg w S ρ σ.n σ.tm a) (hD : Wt E.w0.heap.size w S a.defers) (hx : ZG w S ρ xs vs) (hK : ∀ σ' a' w', k σ' → St E σ' a' w' → K a' w') :
  (∀ args w, (callFunc f args).run P w = .ok (.enter f args) w) ∧ Calls P f vs.toArray w fun e w' => ∃ v, e = .returned v ∧ K (a.put dst v) w' := by
 have fin : ∀ σ' x v w' S' ρ', k ((σ' : zK).put dst x) → Mem E σ'.nb σ'.bl S' ρ' w' → Yg w' S' ρ' σ'.n σ'.tm a → Wt E.w0.heap.size w' S' a.defers → zf w' S' ρ' x v → K (a.put dst v) w' := fun σ' x v w' S' ρ' hk h1 h2 h3 h4 => by
  refine hK _ _ _ hk ⟨S', ρ', ?_, h2.putO dst x v h4, by rw [Yt]; exact h3⟩
  cases dst <;> exact h1
 unfold wg at hv
 split at hv
 ·split at hv
  ·rename_i T hT
   have hOT := hO.own f T hT
   refine ⟨hOT.enters, (hOT.sound E _ _ _ _ _ _ _ _ rfl hM hx hv).mono ?_⟩
   rintro e w' ⟨nb', bl', S', ρ', x, rv, rfl, hk, hM', hS, hle, hR⟩
   refine ⟨rv, rfl, hK _ _ _ hk ⟨S', ρ', ?_, (Yg.putO (σ := { σ with nb := nb', bl := bl' }) (hF.mono hS hle) dst x rv hR), by rw [Yt]; exact hD.mono hS⟩⟩
   cases dst <;> exact hM'
  ·split at hv
   ·rename_i hs
    obtain ⟨x, h1, h2, h3⟩ := Ue hO hs hv
    exact ⟨(h2 trivial).1, Xt hF hD (Ty hM hx (h2 trivial) h1) fun a' w' hst => hK _ a' w' h3 hst⟩
   ·split at hv
    ·rename_i σ' xs' hc
     split at hv
     ·exact hv.elim
     ·rename_i hno
      obtain ⟨S', ρ', g1, g2, g3, g4⟩ := xA hc hM hF hD hx
      split at hv
      ·rename_i he
       exact Tt hO he hv g1 g2 g3 g4 (xH (by simpa using hno)) hK
      obtain ⟨x, h2, h3⟩ := WL hO hv
      exact ⟨(h2 trivial).1, Xt g2 g3 (VU g1 g4 (xH (by simpa using hno)) (h2 trivial)) fun a' w' hst => hK _ a' w' h3 hst⟩
    ·exact hv.elim
 ·rename_i hno
  split at hv
  ·rename_i he
   exact Tt hO he hv hM hF hD hx (xH (by simpa using hno)) hK
  split at hv
  ·exact Uw hO hv hM hF hD hx fin
  ·obtain ⟨x, h2, h3⟩ := WL hO hv
   exact ⟨(h2 trivial).1, Xt hF hD (VU hM hx (xH (by simpa using hno)) (h2 trivial)) fun a' w' hst => hK _ a' w' h3 hst⟩
theorem x7 {σ : zK} {a : Act} (hF : Yg w S ρ σ.n σ.tm a) {x : Operand} (hp : ∀ p ∈ (σ.ev x).gprop, p.holds) : zf w S ρ (σ.sv x) (a.eval x) := (hF.ev x).strip hp
theorem jj {σ : zK} {o : Oper} {a : Act} {ps : List zn} {x : AV} {K : Act → World → Prop} {Q : Exit → Act → World → Prop} (h : yh P E.G.objs σ.bl σ.ev o.op = some (ps, x)) (hp : ∀ p ∈ ps, p.holds)
  (hM : Mem E σ.nb σ.bl S ρ w) (hF : Yg w S ρ σ.n σ.tm a) (hD : Wt E.w0.heap.size w S a.defers) (hK : ∀ a' w', St E (σ.put o.dst x) a' w' → K a' w') : o.wpIn (FW r) n P a w K Q := by
 obtain ⟨v, h1, h2⟩ := tu (e := a.eval) hM h hp fun x _ => hF.ev x
 have hnd : ∀ c, o.op ≠ .defer c := fun c e => by
  rw [e] at h; simp [yh, Zk] at h
 refine WI hnd h1 (hK _ _ ⟨S, ρ, ?_, hF.putO o.dst x v h2, by rw [Yt]; exact hD⟩)
 cases o.dst <;> exact hM
theorem Ve {σ σ1 : zK} {X Y x' p' : AV} {a : Act} {u v : Value} (hc : (match Y with | .ap _ _ _ => W7 σ X Y | _ => some (σ, [X, Y])) = some (σ1, [x', p']))
  (hM : Mem E σ.nb σ.bl S ρ w) (hF : Yg w S ρ σ.n σ.tm a) (hD : Wt E.w0.heap.size w S a.defers) (hxs : ZG w S ρ [X, Y] [u, v]) :
  ∃ S' ρ', Mem E σ1.nb σ1.bl S' ρ' w ∧ Yg w S' ρ' σ1.n σ1.tm a ∧ Wt E.w0.heap.size w S' a.defers ∧ ZG w S' ρ' [x', p'] [u, v] := by
 split at hc
 ·exact ue hc hM hF hD hxs
 ·cases hc; exact ⟨S, ρ, hM, hF, hD, hxs⟩
theorem tU (hO : Zz P E.G) (hY : YW P E) {σ : zK} {o : Oper} {a : Act} {k : zK → Prop} {K : Act → World → Prop} {Q : Exit → Act → World → Prop} (hv : kM P E.G σ o k) (hst : St E σ a w)
  (hK : ∀ σ' a' w', k σ' → St E σ' a' w' → K a' w') : o.wpIn (FW r) n P a w K Q := by
 obtain ⟨S, ρ, hM, hF, hD⟩ := hst
 have nd : ∀ {op : Op}, o.op = op → (∀ c, op ≠ .defer c) → ∀ c, o.op ≠ .defer c := fun e h c e' => h c (e ▸ e')
 unfold kM at hv
 split at hv
 ·rename_i elem ho
  split at hv
  ·rename_i σ' x h
   exact Yd (nd ho (by simp)) (uU ho hM hF hD h) fun a' w' hs => hK _ a' w' hv hs
  ·exact hv.elim
 ·rename_i t x ho
  split at hv
  ·rename_i σ' y h
   rw [ZP] at hv
   exact Yd (nd ho (by simp)) (sY ho hM hF hD (x7 hF hv.1) h) fun a' w' hs => hK _ a' w' hv.2 hs
  ·exact hv.elim
 ·rename_i t p x ho
  split at hv
  ·rename_i σ1 x' p' hc
   split at hv
   ·rename_i σ' h
    rw [ZP] at hv
    have h1 := x7 hF fun q hq => hv.1 q (List.mem_append_left _ hq)
    have h2 := x7 hF fun q hq => hv.1 q (List.mem_append_right _ hq)
    have hxs : ZG w S ρ [σ.sv x, σ.sv p] [a.eval x, a.eval p] := ⟨h2, h1, trivial⟩
    obtain ⟨S', ρ', g1, g2, g3, g4⟩ := Ve hc hM hF hD hxs
    exact Yd (nd ho (by simp)) (Ur ho g1 g2 g3 g4.2.1 g4.1 h) fun a' w' hs => hK _ a' w' hv.2 hs
   ·exact hv.elim
  ·exact hv.elim
 ·rename_i t len parts ho
  split at hv
  ·rename_i σ' x h
   rw [ZP] at hv
   have hl := Ys hF hv.1
   simp only [List.map_map] at hl
   exact Yd (nd ho (by simp)) (tZ ho hM hF hD (fun _ => rfl) hl h) fun a' w' hs => hK _ a' w' hv.2 hs
  split at hv
  ·rename_i σ1 xs hc
   split at hv
   ·rename_i σ' x h
    rw [ZP] at hv
    have hl := Ys hF hv.1
    simp only [List.map_map] at hl
    obtain ⟨S', ρ', g1, g2, g3, g4⟩ := xA hc hM hF hD hl
    exact Yd (nd ho (by simp)) (xN ho g1 g2 g3 g4 h) fun a' w' hs => hK _ a' w' hv.2 hs
   ·exact hv.elim
  ·exact hv.elim
 ·rename_i t l c ho
  split at hv
  ·rename_i ps σ' x h
   rw [ZP] at hv
   have h1 := x7 hF fun q hq => hv.1 q (List.mem_append_left _ (List.mem_append_left _ hq))
   have h2 := x7 hF fun q hq => hv.1 q (List.mem_append_left _ (List.mem_append_right _ hq))
   exact Yd (nd ho (by simp)) (Wh ho hM hF hD h1 h2 h fun q hq => hv.1 q (List.mem_append_right _ hq)) fun a' w' hs => hK _ a' w' hv.2 hs
  ·exact hv.elim
 ·rename_i fo args ts ho
  split at hv
  ·rename_i fid nf first nc cap hfn
   rw [ZP] at hv
   obtain ⟨vs, us, hfv, hl⟩ := Qx hF hfn hv.1
   obtain ⟨he, hc⟩ := sk hO hv.2 hM hF hD hl hK
   exact Wc (nd ho (by simp)) (Ul ho hfv he) hc
  ·rename_i p hfn
   split at hv
   ·rename_i T hT
    rw [ZP] at hv
    have h1 : zf w S ρ (.yl p) (a.eval fo) := hfn ▸ x7 hF fun q hq => hv.1 q (List.mem_append_left _ hq)
    have hl := Ys hF fun q hq => hv.1 q (List.mem_append_right _ hq)
    obtain ⟨g, fn, tmps, as, bd, hv1, hrun, hround⟩ := hY.at_ p T hT E _ _ _ _ _ _ _ _ _ rfl (hY.ext hM) hM hl h1 hv.2
    refine UW (nd ho (by simp)) (tV ho hv1 hrun) ((hround r (n - 1)).mono ?_)
    rintro e w' ⟨nb', bl', S', ρ', x, rv, rfl, hk, hM', hS, hle, hR⟩
    refine ⟨rv, rfl, hK _ _ _ hk ⟨S', ρ', ?_, (Yg.putO (σ := { σ with nb := nb', bl := bl' }) (hF.mono hS hle) o.dst x rv hR), by rw [Yt]; exact hD.mono hS⟩⟩
    cases o.dst <;> exact hM'
   ·exact hv.elim
  ·exact hv.elim
 ·rename_i args ts ho
  split at hv
  ·rename_i s x t t' ha ht
   split at hv
   ·rename_i htt
    subst htt
    split at hv
    ·rename_i ps σ' y h
     rw [ZP] at hv
     have h1 := x7 hF fun q hq => hv.1 q (List.mem_append_left _ (List.mem_append_left _ hq))
     have h2 := x7 hF fun q hq => hv.1 q (List.mem_append_left _ (List.mem_append_right _ hq))
     have ho' : o.op = .call { callee := .builtin .append, args := #[s, x], argTypes := #[t, t] } := by
      rw [ho]
      congr 2
      all_goals grind
     exact Yd (nd ho (by simp)) (VH ho' hM hF hD h1 h2 h fun q hq => hv.1 q (List.mem_append_right _ hq)) fun a' w' hs => hK _ a' w' hv.2 hs
    ·exact hv.elim
   ·split at hv
    ·rename_i ps σ' y h
     rw [ZP] at hv
     have h1 := x7 hF fun q hq => hv.1 q (List.mem_append_left _ (List.mem_append_left _ hq))
     have h2 := x7 hF fun q hq => hv.1 q (List.mem_append_left _ (List.mem_append_right _ hq))
     have ho' : o.op = .call { callee := .builtin .append, args := #[s, x], argTypes := #[t, t'] } := by
      rw [ho]
      congr 2
      all_goals grind
     exact Yd (nd ho (by simp)) (VE ho' hM hF hD h1 h2 h fun q hq => hv.1 q (List.mem_append_right _ hq)) fun a' w' hs => hK _ a' w' hv.2 hs
    ·exact hv.elim
  ·exact hv.elim
 ·split at hv
  ·rename_i ps x h
   rw [ZP] at hv
   exact jj h hv.1 hM hF hD fun a' w' hs => hK _ a' w' hv.2 hs
  ·exact hv.elim
theorem Yg.skip {σ : zK} {a : Act} {g : Bool} (hF : Yg w S ρ σ.n σ.tm a) (hg : g = false) (d : Option Tmp) (x : AV) :
  Yg w S ρ (σ.put d (.gd g x)).n (σ.put d (.gd g x)).tm (a.put d undef) :=
 hF.putO d _ _ (.gd undef (fun h => by rw [hg] at h; cases h) fun _ => rfl)
theorem St.skip {σ : zK} {a : Act} {g : Bool} (hM : Mem E σ.nb σ.bl S ρ w) (hF : Yg w S ρ σ.n σ.tm a) (hD : Wt E.w0.heap.size w S a.defers) (hg : g = false) (d : Option Tmp) (x : AV) :
  St E (σ.put d (.gd g x)) (a.put d undef) w := by
 refine ⟨S, ρ, ?_, hF.skip hg d x, by rw [Yt]; exact hD⟩
 cases d <;> exact hM
theorem VT (hO : Zz P E.G) {σ : zK} {o : Oper} {a : Act} {g : Bool} {k : zK → Prop} {K : Act → World → Prop} {Q : Exit → Act → World → Prop} (hv : Sq P E.G g σ o k) (hst : St E σ a w)
  (hK : ∀ σ' a' w', k σ' → St E σ' a' w' → K a' w') : (g = true → o.wpIn (FW r) n P a w K Q) ∧ (g = false → K (a.put o.dst undef) w) := by
 obtain ⟨S, ρ, hM, hF, hD⟩ := hst
 have wrap : ∀ {x : AV} {v : Value} {w' : World} {S' : Nat → Prop}, g = true → zf w' S' ρ x v → zf w' S' ρ (.gd g x) v := fun hg h => .gd _ (fun _ => h) fun h0 => by rw [hg] at h0; cases h0
 unfold Sq at hv
 split at hv
 ·rename_i fo args ts ho
  have nd : ∀ c, o.op ≠ .defer c := fun c e => by rw [ho] at e; cases e
  split at hv
  ·rename_i fid nf first nc cap hfn
   simp only [yP] at hv
   obtain ⟨hp, hv⟩ := hv
   have fin : ∀ {x : AV}, g = true → (∀ {vs : List Value}, ZG w S ρ (yd nf first (args.toList.map σ.sv) nc cap) vs → Calls P fid vs.toArray w (After E σ.nb σ.bl S ρ w x)) →
     (∀ args w, (callFunc fid args).run P w = .ok (.enter fid args) w) → (∀ a' w', St E (σ.put o.dst (.gd g x)) a' w' → K a' w') → o.wpIn (FW r) n P a w K Q := by
    intro x hg hc he hk
    obtain ⟨vs, us, hfv, hl⟩ := Qx hF hfn (hp hg)
    refine Wc nd (Ul ho hfv he) (Xt (x := .gd g x) hF hD ((hc hl).mono ?_) hk)
    rintro e w' ⟨rv, S', rfl, h1, h2, h3⟩
    exact ⟨rv, S', rfl, h1, h2, wrap hg h3⟩
   split at hv
   ·split at hv
    ·cases g with
     | false => exact ⟨fun hg => (by cases hg), fun hg => hK _ _ _ hv (St.skip hM hF hD hg o.dst _)⟩
     | true => exact hv.elim
    ·split at hv
     ·rename_i hs
      obtain ⟨x, h1, h2, h3⟩ := Ue hO hs hv
      exact ⟨fun hg => fin hg (fun hl => Ty hM hl (h2 hg) h1) (h2 hg).1 fun a' w' h => hK _ a' w' h3 h, fun hg => hK _ _ _ h3 (St.skip hM hF hD hg o.dst x)⟩
     ·exact hv.elim
   ·rename_i hno
    unfold wt at hv
    split at hv
    ·cases g with
     | false => exact ⟨fun hg => (by cases hg), fun hg => hK _ _ _ hv (St.skip hM hF hD hg o.dst _)⟩
     | true => exact hv.elim
    ·obtain ⟨x, h2, h3⟩ := WL hO hv
     exact ⟨fun hg => fin hg (fun hl => VU hM hl (xH (by simpa using hno)) (h2 hg)) (h2 hg).1 fun a' w' h => hK _ a' w' h3 h, fun hg => hK _ _ _ h3 (St.skip hM hF hD hg o.dst x)⟩
  ·exact hv.elim
 ·rename_i t len parts ho
  split at hv
  ·exact hv.elim
  ·split at hv
   ·rename_i σ' x h
    obtain ⟨rfl, _⟩ := Yq h
    rw [yP] at hv
    refine ⟨fun hg => ?_, fun hg => hK _ _ _ hv.2 (St.skip hM hF hD hg o.dst x)⟩
    have hl := Ys hF (hv.1 hg)
    simp only [List.map_map] at hl
    obtain ⟨nx, v, w', S', ρ', h1, h2, h3, h4, h5, h6⟩ := xN ho hM hF hD hl h
    exact Yd (x := .gd g x) (fun c e => by rw [ho] at e; cases e) ⟨nx, v, w', S', ρ', h1, h2, h3, h4, h5, .gd _ (fun _ => h6) fun h0 => by rw [hg] at h0; cases h0⟩ fun a' w' hs => hK _ a' w' hv.2 hs
   ·exact hv.elim
 ·split at hv
  ·rename_i ps x h
   rw [yP] at hv
   refine ⟨fun hg => ?_, fun hg => hK _ _ _ hv.2 (St.skip hM hF hD hg o.dst x)⟩
   obtain ⟨v, h1, h2⟩ := tu (e := a.eval) hM h (hv.1 hg) fun x _ => hF.ev x
   have hnd : ∀ c, o.op ≠ .defer c := fun c e => by
    rw [e] at h; simp [yh, Zk] at h
   refine WI hnd h1 (hK _ _ _ hv.2 ⟨S, ρ, ?_, hF.putO o.dst _ v (wrap hg h2), by rw [Yt]; exact hD⟩)
   cases o.dst <;> exact hM
  ·exact hv.elim
theorem qZ (hO : Zz P E.G) (hY : YW P E) {σ : zK} {o : Oper} {a : Act} {g : Bool} {k : zK → Prop} {K : Act → World → Prop} {Q : Exit → Act → World → Prop} (hv : TI P E.G g σ o k) (hst : St E σ a w)
  (hK : ∀ σ' a' w', k σ' → St E σ' a' w' → K a' w') : (g = true → o.wpIn (FW r) n P a w K Q) ∧ (g = false → K (a.put o.dst undef) w) := by
 unfold TI at hv
 split at hv
 ·rename_i fo args ts ho
  have nd : ∀ c, o.op ≠ .defer c := fun c e => by rw [ho] at e; cases e
  split at hv
  ·rename_i fid nf first nc cap hfn
   split at hv
   ·obtain ⟨S, ρ, hM, hF, hD⟩ := hst
    cases g with
    | true =>
     change Yo _ _ at hv
     rw [ZP] at hv
     obtain ⟨hp, hv⟩ := hv
     refine ⟨fun _ => ?_, fun hg => (by cases hg)⟩
     obtain ⟨vs, us, hfv, hl⟩ := Qx hF hfn hp
     obtain ⟨he, hc⟩ := Uw (K := fun v w' => K (a.put o.dst v) w') hO hv hM hF hD hl fun σ' x v w' S' ρ' hk h1 h2 h3 h4 => by
      refine hK _ _ _ hk ⟨S', ρ', ?_, h2.putO o.dst _ v (.gd _ (fun _ => h4) fun h0 => by cases h0), by rw [Yt]; exact h3⟩
      cases o.dst <;> exact h1
     exact Wc nd (Ul ho hfv he) hc
    | false => exact ⟨fun hg => (by cases hg), fun hg => hK _ _ _ hv (St.skip hM hF hD hg o.dst _)⟩
   ·exact VT hO hv hst hK
  ·rename_i p hfn
   split at hv
   ·rename_i T hT
    obtain ⟨S, ρ, hM, hF, hD⟩ := hst
    cases g with
    | true =>
     change Yo _ _ at hv
     rw [ZP] at hv
     refine ⟨fun _ => ?_, fun hg => (by cases hg)⟩
     have h1 : zf w S ρ (.yl p) (a.eval fo) := hfn ▸ x7 hF fun q hq => hv.1 q (List.mem_append_left _ hq)
     have hl := Ys hF fun q hq => hv.1 q (List.mem_append_right _ hq)
     obtain ⟨g, fn, tmps, as, bd, hv1, hrun, hround⟩ := hY.at_ p T hT E _ _ _ _ _ _ _ _ _ rfl (hY.ext hM) hM hl h1 hv.2
     refine UW nd (tV ho hv1 hrun) ((hround r (n - 1)).mono ?_)
     rintro e w' ⟨nb', bl', S', ρ', x, rv, rfl, hk, hM', hS, hle, hR⟩
     refine ⟨rv, rfl, hK _ _ _ hk ⟨S', ρ', ?_, (Yg.putO (σ := { σ with nb := nb', bl := bl' }) (hF.mono hS hle) o.dst _ rv (.gd _ (fun _ => hR) fun h0 => by cases h0)), by rw [Yt]; exact hD.mono hS⟩⟩
     cases o.dst <;> exact hM'
    | false => exact ⟨fun hg => (by cases hg), fun hg => hK _ _ _ hv (St.skip hM hF hD hg o.dst _)⟩
   ·exact hv.elim
  ·exact VT hO hv hst hK
 ·exact VT hO hv hst hK
theorem UU (hO : Zz P E.G) (hY : YW P E) {σ : zK} {o : Oper} {a : Act} {g : Bool} {k : zK → Prop} {K : Act → World → Prop} {Q : Exit → Act → World → Prop}
  (hv : match E.G.conc && !g with | true => k (σ.put o.dst (.gd false (uD P o.type))) | false => TI P E.G g σ o k) (hst : St E σ a w)
  (hK : ∀ σ' a' w', k σ' → St E σ' a' w' → K a' w') : (g = true → o.wpIn (FW r) n P a w K Q) ∧ (g = false → K (a.put o.dst undef) w) := by
 cases hc : E.G.conc && !g with
 | false => rw [hc] at hv; exact qZ hO hY hv hst hK
 | true =>
  rw [hc] at hv
  simp only [Bool.and_eq_true, Bool.not_eq_true'] at hc
  obtain ⟨S, ρ, hM, hF, hD⟩ := hst
  have hg := hc.2
  subst hg
  exact ⟨fun hg => (by cases hg), fun hg => hK _ _ _ hv (St.skip hM hF hD rfl o.dst _)⟩
theorem Vj (hO : Zz P E.G) (hY : YW P E) {ops : List Oper} {Q : Exit → Act → World → Prop} : ∀ (rest : List Oper) (i : Nat) {σ : zK} {a : Act} {w : World} {k : zK → Prop}, (∀ j, rest[j]? = ops[i + j]?) → Vo P E.G ops rest σ k → St E σ a w →
  (∀ σ' a' w', k σ' → St E σ' a' w' → Q .normal a' w') → wpOpsIn (FW r) n P ops.toArray Q (List.range' i rest.length) a w
 | [], i, σ, a, w, k, _, hv, hst, hK => hK _ _ _ hv hst
 | o :: rest, i, σ, a, w, k, hi, hv, hst, hK => by
  have h0 : ops[i]? = some o := by simpa using (hi 0).symm
  have hrest : ∀ j, rest[j]? = ops[i + 1 + j]? := fun j => by
   have := hi (j + 1)
   grind
  have key : ∀ σ' a' w', Vo P E.G ops rest σ' k → St E σ' a' w' → wpOpsIn (FW r) n P ops.toArray Q (List.range' (i + 1) rest.length) a' w' :=
   fun σ' a' w' hv' hst' => Vj hO hY rest (i + 1) hrest hv' hst' hK
  simp only [List.length_cons, List.range'_succ, wpOpsIn, List.getElem?_toArray, h0]
  simp only [Vo, U4] at hv
  cases hg : o.guard with
  | none =>
   rw [hg] at hv
   simp only [Region.wanted, hg, if_true]
   exact tU hO hY hv hst key
  | some jw =>
   obtain ⟨j, want⟩ := jw
   rw [hg] at hv
   simp only at hv
   split at hv
   ·rename_i g hga
    have hw : Region.wanted o (yielded ops.toArray a.tmps) = g := by
     obtain ⟨S, ρ, _, hF, _⟩ := hst
     simp only [Region.wanted, hg]
     exact Vk hga hF
    obtain ⟨h1, h2⟩ := UU (r := r) (n := n) (Q := Q) hO hY hv hst key
    rw [hw]
    cases g with
    | true => simp_all
    | false => rw [if_neg (by simp)]; exact ⟨fun _ _ => trivial, h2 rfl⟩
   ·exact hv.elim
theorem sR (hO : Zz P E.G) (hY : YW P E) {id : Nat} {ops : Array Oper} {σ : zK} {a : Act} {k : zK → Prop} {Q : Exit → Act → World → Prop} (hv : Vo P E.G ops.toList ops.toList σ k) (hst : St E σ a w)
  (hK : ∀ σ' a' w', k σ' → St E σ' a' w' → Q .normal a' w') : (Code.region id ops false).wpIn (FW r) n P Q a w := by
 refine wpIn_region ?_
 rw [List.range_eq_range', ← Array.length_toList]
 have := Vj hO hY (r := r) (n := n) (Q := Q) ops.toList 0 (by simp) hv hst hK
 omega
end
end Go.Sx
