/- The verification condition of one operation, of a region carried out in order. -/
import Derived.Test.YtojonobehnbeiaaGreatDoorSxJ
import Derived.TacticsIn
namespace Go.Sx
open Go Go.RowKit
def exList (ex : TypeId → (AV → Prop) → Prop) : List TypeId → (List AV → Prop) → Prop
  | [], k => k []
  | t :: ts, k => ex t fun v => exList ex ts fun vs => k (v :: vs)
def exAV (P : Program) : Nat → TypeId → (AV → Prop) → Prop
  | 0, _, k => ∃ r, k r
  | n + 1, t, k =>
    match P.underlying t with
    | some (.int kd) => ∃ x : Int, k (.v (.int kd x))
    | some .bool => ∃ x : Bool, k (.v (.bool x))
    | some .string => ∃ l : List UInt8, k (.str l)
    | some (.slice _) => ∃ (f : Bool) (sz len : Nat) (els : Nat → Nat → AV), k (.xl f sz len els)
    | some (.tuple ts) => exList (exAV P n) ts.toList fun vs => k (.tup vs.length (listFn vs))
    | _ => ∃ r, k r
theorem exList_some {ex : TypeId → (AV → Prop) → Prop} (hex : ∀ t k, ex t k → ∃ r, k r) : ∀ (ts : List TypeId) (k : List AV → Prop), exList ex ts k → ∃ vs, k vs
  | [], k, h => ⟨[], h⟩
  | t :: ts, k, h => by
    obtain ⟨v, hv⟩ := hex t _ h
    obtain ⟨vs, hvs⟩ := exList_some hex ts _ hv
    exact ⟨v :: vs, hvs⟩
theorem exAV_some {P : Program} : ∀ (n : Nat) (t : TypeId) (k : AV → Prop), exAV P n t k → ∃ r, k r
  | 0, t, k, h => h
  | n + 1, t, k, h => by
    unfold exAV at h
    split at h
    · obtain ⟨x, hx⟩ := h; exact ⟨_, hx⟩
    · obtain ⟨x, hx⟩ := h; exact ⟨_, hx⟩
    · obtain ⟨x, hx⟩ := h; exact ⟨_, hx⟩
    · obtain ⟨f, sz, len, els, hx⟩ := h; exact ⟨_, hx⟩
    · obtain ⟨vs, hvs⟩ := exList_some (exAV_some n) _ _ h
      exact ⟨_, hvs⟩
    · exact h
def scalT (P : Program) : Nat → TypeId → Bool
  | 0, _ => false
  | n + 1, t =>
    match P.underlying t with
    | some (.int _) | some .bool | some .string => true
    | some (.tuple ts) => ts.toList.all (scalT P n)
    | _ => false
theorem exList_scal {ex : TypeId → (AV → Prop) → Prop} {sc : TypeId → Bool} (hex : ∀ t k, sc t = true → ex t k → ∃ r, r.scalar = true ∧ k r) :
    ∀ (ts : List TypeId) (k : List AV → Prop), ts.all sc = true → exList ex ts k → ∃ vs : List AV, (∀ v ∈ vs, v.scalar = true) ∧ k vs
  | [], k, _, h => ⟨[], fun _ hv => (by cases hv), h⟩
  | t :: ts, k, hs, h => by
    simp only [List.all_cons, Bool.and_eq_true] at hs
    obtain ⟨v, h1, hv⟩ := hex t _ hs.1 h
    obtain ⟨vs, h2, hvs⟩ := exList_scal hex ts _ hs.2 hv
    refine ⟨v :: vs, fun x hx => ?_, hvs⟩
    rcases List.mem_cons.1 hx with e | e
    · rw [e]; exact h1
    · exact h2 x e
theorem anyN_of {f : Nat → Bool} {n : Nat} (h : ∀ i, i < n → f i = false) : anyN f n = false := by
  induction n with
  | zero => rfl
  | succ n ih => simp only [anyN, Bool.or_eq_false_iff]; exact ⟨ih fun i hi => h i (by omega), h n (by omega)⟩
theorem exAV_scal {P : Program} : ∀ (n : Nat) (t : TypeId) (k : AV → Prop), scalT P n t = true → exAV P n t k → ∃ r : AV, r.scalar = true ∧ k r
  | 0, t, k, hs, h => by cases hs
  | n + 1, t, k, hs, h => by
    unfold scalT at hs
    unfold exAV at h
    split at hs
    · rename_i kd hu
      rw [hu] at h
      obtain ⟨x, hx⟩ := h; exact ⟨_, rfl, hx⟩
    · rename_i hu
      rw [hu] at h
      obtain ⟨x, hx⟩ := h; exact ⟨_, rfl, hx⟩
    · rename_i hu
      rw [hu] at h
      obtain ⟨x, hx⟩ := h; exact ⟨_, rfl, hx⟩
    · rename_i ts hu
      rw [hu] at h
      obtain ⟨vs, h1, hvs⟩ := exList_scal (exAV_scal n) _ _ hs h
      refine ⟨_, ?_, hvs⟩
      simp only [AV.scalar, Bool.not_eq_true']
      refine anyN_of fun i hi => ?_
      simp only [listFn, List.getElem?_eq_getElem hi, Option.getD_some, Bool.not_eq_false']
      exact h1 _ (List.getElem_mem hi)
    · cases hs
def bsel (want t : Bool) : Bool := bif want then t else !t
def guardAV (ops : List Oper) (σ : Sig) (j : Nat) (want : Bool) : Option Bool :=
  match ops[j]? with
  | some o =>
    match o.dst with
    | some d =>
      if d < σ.n then
        match σ.tm d with
        | .v (.bool t) => some (bsel want t)
        | .gd g (.v (.bool t)) => some (g && bsel want t)
        | _ => none
      else none
    | none => none
  | none => none
theorem bsel_iff (want t : Bool) : ((some t : Option Bool) == some want) = bsel want t := by cases want <;> cases t <;> rfl
theorem guard_sound {ops : List Oper} {σ : Sig} {j : Nat} {want g : Bool} {w : World} {S : Nat → Prop} {ρ : Nat → Own} {a : Act} (h : guardAV ops σ j want = some g)
    (hF : FrR w S ρ σ.n σ.tm a) : (yielded ops.toArray a.tmps j == some want) = g := by
  unfold guardAV at h
  split at h
  · rename_i o ho
    split at h
    · rename_i d hd
      split at h
      · rename_i hlt
        have hr := hF.2 d hlt
        have hy : yielded ops.toArray a.tmps j = match a.tmps.getD d undef with | .bool b => some b | _ => none := by
          unfold yielded
          have hsz : d < a.tmps.size := by rw [hF.1]; exact hlt
          simp only [List.getElem?_toArray, ho, Option.bind_some, hd, Array.getD_eq_getD_getElem?, Array.getElem?_eq_getElem hsz, Option.getD_some]
          cases a.tmps[d] <;> rfl
        split at h
        · rename_i t ht
          cases h
          rw [ht] at hr
          rw [hy, rel_v hr]
          exact bsel_iff want t
        · rename_i g0 t ht
          cases h
          rw [ht] at hr
          cases hr with
          | gd v h1 h2 =>
            cases g0 with
            | true =>
              rw [hy, rel_v (h1 rfl)]
              exact bsel_iff want t
            | false =>
              rw [hy, h2 rfl]
              rfl
        · cases h
      · cases h
    · cases h
  · cases h
def AV.refs : AV → List Nat
  | .np k _ | .ns k _ _ | .ap k _ _ => [k]
  | .agg n cs => (List.range n).flatMap fun i => (cs i).refs
  | .tup n cs => (List.range n).flatMap fun i => (cs i).refs
  | .fn _ nf f nc c => ((List.range nf).flatMap fun i => (f i).refs) ++ (List.range nc).flatMap fun i => (c i).refs
  | .gd _ x => x.refs
  | _ => []
def deepRefs (bl : Nat → OB) (x : AV) : List Nat :=
  x.refs.flatMap fun k => (match bl k with
    | .box _ n cells => (List.range n).flatMap fun i => (cells i).refs
    | _ => []) ++ [k]
def closeL : List Nat → Sig → List AV → Option (Sig × List AV)
  | [], σ, xs => some (σ, xs)
  | k :: ks, σ, xs => if k < σ.nb then closeL ks (σ.frz k) (xs.map fun x => x.frz σ.bl k) else none
def closeAll (σ : Sig) (xs : List AV) : Option (Sig × List AV) :=
  if xs.any AV.hasOwn then closeL (xs.flatMap (deepRefs σ.bl)) σ xs else some (σ, xs)
def closeFor (σ : Sig) (x p : AV) : Option (Sig × List AV) :=
  if x.hasOwn then closeL (deepRefs σ.bl x) σ [x, p] else some (σ, [x, p])
def fnArgs (nf : Nat) (first : Nat → AV) (args : List AV) (nc : Nat) (cap : Nat → AV) : List AV :=
  (List.range nf).map first ++ args ++ (List.range nc).map cap
def gimp (g : Bool) (ps : List Cond) (k : Prop) : Prop := allP (ps.map fun p => p.under g) k
def gT : Option Bool → Prop
  | none => True
  | some g => g = true
def callP (g : Option Bool) (ps : List Cond) (k : Prop) : Prop :=
  match g with
  | none => allP ps k
  | some g => gimp g ps k
def callE (P : Program) (G : Cx) (g : Option Bool) (f : FuncId) (xs : List AV) (r : AV) : Prop :=
  match g with
  | none => PureCall P G.objs f xs r
  | some g => g = true → PureCall P G.objs f xs r
def callK (P : Program) (G : Cx) (g : Option Bool) (f : FuncId) (xs : List AV) (t : TypeId) (K : AV → Prop) : Prop :=
  match G.pu f xs with
  | some (ps, r) => callP g ps (K r)
  | none => exAV P 3 t fun r => callE P G g f xs r ∧ K r
def lendable (P : Program) (G : Cx) (f : FuncId) (xs : List AV) (t : TypeId) : Bool :=
  match G.pu f xs with
  | some (_, r) => r.scalar
  | none => scalT P 3 t
def inl (G : Cx) (f : FuncId) (xs : List AV) : Bool := (G.own f).isSome && (G.pu f xs).isNone
def offAV (P : Program) (t : TypeId) : AV :=
  match P.info? t with
  | some it => (match it.zero with
    | some z => bif Nat.beq z.cells.size 1 then .v (z.cells.getD 0 undef) else .junk
    | none => .junk)
  | none => .junk
def gcall (P : Program) (G : Cx) (g : Option Bool) (f : FuncId) (xs : List AV) (t : TypeId) (K : AV → Prop) : Prop :=
  match inl G f xs with
  | true => (match g with | some false => K (offAV P t) | _ => Fail f)
  | false => callK P G g f xs t K
def vcBody (G : Cx) (σ : Sig) (f : FuncId) (xs : List AV) (k : Sig → AV → Prop) : Prop :=
  match G.own f with
  | some T => T σ.nb σ.bl xs fun nb' bl' r => k { σ with nb := nb', bl := bl' } r
  | none => Fail f
def effFre (G : Cx) (σ : Sig) (f : FuncId) (xs : List AV) : Option (List Cond × Sig × AV) :=
  match G.fre f xs with
  | some (ps, t, sz, len, els) => some (ps, σ.add (.arr t sz len els), .ns σ.nb 0 len)
  | none => none
def isApp1 : OB → Bool
  | .app .. => true
  | _ => false
def appRef (bl : Nat → OB) (xs : List AV) : Bool := xs.any fun x => match x with | .ns k _ _ => isApp1 (bl k) | _ => false
def vcCall (P : Program) (G : Cx) (σ : Sig) (f : FuncId) (xs : List AV) (t : TypeId) (dst : Option Tmp) (k : Sig → Prop) : Prop :=
  if xs.any AV.hasOwn then
    match G.own f with
    | some T => T σ.nb σ.bl xs fun nb' bl' r => k (({ σ with nb := nb', bl := bl' } : Sig).put dst r)
    | none =>
      match appRef σ.bl xs, G.fre f (xs.map (lend σ.bl)) with
      | true, some (ps, te, sz, len, els) => allP (ps ++ [.p (∀ i j, i < len → j < sz → (els i j).scalar = true)]) (k ((σ.add (.arr te sz len els)).put dst (.ns σ.nb 0 len)))
      | _, _ =>
      if lendable P G f (xs.map (lend σ.bl)) t then callK P G none f (xs.map (lend σ.bl)) t fun r => k (σ.put dst r)
      else
        match closeAll σ xs with
        | some (σ', xs') =>
          if xs'.any AV.hasOwn then Fail f
          else
            match effFre G σ' f xs' with
            | some (ps, σ1, r) => allP ps (k (σ1.put dst r))
            | none => callK P G none f xs' t fun r => k (σ'.put dst r)
        | none => Fail f
  else
    match effFre G σ f xs with
    | some (ps, σ1, r) => allP ps (k (σ1.put dst r))
    | none =>
      match inl G f xs with
      | true => vcBody G σ f xs fun σ' r => k (σ'.put dst r)
      | false => callK P G none f xs t fun r => k (σ.put dst r)
def gprops (σ : Sig) (l : List Operand) : List Cond := l.flatMap fun x => (σ.ev x).gprop
def Sig.sv (σ : Sig) (x : Operand) : AV := (σ.ev x).strip
def vcU (P : Program) (G : Cx) (σ : Sig) (o : Oper) (k : Sig → Prop) : Prop :=
  match o.op with
  | .alloc elem =>
    match effAlloc P σ elem with
    | some (σ', r) => k (σ'.put o.dst r)
    | none => Fail o
  | .box t x =>
    match effBox σ t (σ.sv x) with
    | some (σ', r) => allP (σ.ev x).gprop (k (σ'.put o.dst r))
    | none => Fail o
  | .store t p x =>
    match (match σ.sv p with | .ap k i j => (bif rowCol σ.bl (.ap k i j) then some (σ, [σ.sv x, σ.sv p]) else closeFor σ (σ.sv x) (σ.sv p)) | _ => some (σ, [σ.sv x, σ.sv p])) with
    | some (σ1, [x', p']) =>
      match effStore P σ1 t p' x' with
      | some σ' => allP ((σ.ev p).gprop ++ (σ.ev x).gprop) (k (σ'.put o.dst .junk))
      | none =>
        match effStoreR P σ1 t p' x' with
        | some (ps, σ') => allP ((σ.ev p).gprop ++ (σ.ev x).gprop ++ ps) (k (σ'.put o.dst .junk))
        | none => Fail o
    | _ => Fail o
  | .buildSlice t len parts =>
    match closeAll σ (parts.toList.map fun p => σ.sv p.2) with
    | some (σ1, xs) =>
      match effBuildSlice P σ1 t len (parts.toList.map (·.1)) xs with
      | some (σ', r) => allP (gprops σ (parts.toList.map (·.2))) (k (σ'.put o.dst r))
      | none => Fail o
    | none => Fail o
  | .makeSlice t l c =>
    match effMakeSlice P σ t (σ.sv l) (σ.sv c) with
    | some (ps, σ', r) => allP ((σ.ev l).gprop ++ (σ.ev c).gprop ++ ps) (k (σ'.put o.dst r))
    | none => Fail o
  | .call { callee := .value f, args, .. } =>
    match σ.sv f with
    | .fn (.func fid) nf first nc cap =>
      allP ((σ.ev f).gprop ++ gprops σ args.toList) (vcCall P G σ fid (fnArgs nf first (args.toList.map σ.sv) nc cap) o.type o.dst k)
    | .yl p =>
      match G.yld p with
      | some T => allP ((σ.ev f).gprop ++ gprops σ args.toList) (T σ.nb σ.bl (args.toList.map σ.sv) fun nb' bl' r => k (({ σ with nb := nb', bl := bl' } : Sig).put o.dst r))
      | none => Fail o
    | _ => Fail o
  | .call { callee := .builtin .append, args, argTypes } =>
    match args.toList, argTypes.toList with
    | [s, x], [t, t'] =>
      if t = t' then
        match effAppend P σ t (σ.sv s) (σ.sv x) with
        | some (ps, σ', r) => allP ((σ.ev s).gprop ++ (σ.ev x).gprop ++ ps) (k (σ'.put o.dst r))
        | none =>
          match effAppendA P σ t (σ.sv s) (σ.sv x) with
          | some (ps, σ', r) => allP ((σ.ev s).gprop ++ (σ.ev x).gprop ++ ps) (k (σ'.put o.dst r))
          | none => Fail o
      else
        match effAppStr P σ t t' (σ.sv s) (σ.sv x) with
        | some (ps, σ', r) => allP ((σ.ev s).gprop ++ (σ.ev x).gprop ++ ps) (k (σ'.put o.dst r))
        | none => Fail o
    | _, _ => Fail o
  | op =>
    match detOp P σ.bl σ.ev op with
    | some (ps, r) => allP ps (k (σ.put o.dst r))
    | none => Fail o
def vcG (P : Program) (G : Cx) (g : Bool) (σ : Sig) (o : Oper) (k : Sig → Prop) : Prop :=
  match o.op with
  | .call { callee := .value f, args, .. } =>
    match σ.sv f with
    | .fn (.func fid) nf first nc cap =>
      gimp g ((σ.ev f).gprop ++ gprops σ args.toList) <|
        if (fnArgs nf first (args.toList.map σ.sv) nc cap).any AV.hasOwn then
          match inl G fid (fnArgs nf first (args.toList.map σ.sv) nc cap) with
          | true => (match g with | false => k (σ.put o.dst (.gd g (offAV P o.type))) | true => Fail o)
          | false => if lendable P G fid ((fnArgs nf first (args.toList.map σ.sv) nc cap).map (lend σ.bl)) o.type then callK P G (some g) fid ((fnArgs nf first (args.toList.map σ.sv) nc cap).map (lend σ.bl)) o.type fun r => k (σ.put o.dst (.gd g r)) else Fail o
        else gcall P G (some g) fid (fnArgs nf first (args.toList.map σ.sv) nc cap) o.type fun r => k (σ.put o.dst (.gd g r))
    | _ => Fail o
  | .buildSlice t len parts =>
    if (parts.toList.map fun p => σ.sv p.2).any AV.hasOwn then Fail o
    else
      match effBuildSlice P σ t len (parts.toList.map (·.1)) (parts.toList.map fun p => σ.sv p.2) with
      | some (_, r) => gimp g (gprops σ (parts.toList.map (·.2))) (k (σ.put o.dst (.gd g r)))
      | none => Fail o
  | op =>
    match detOp P σ.bl σ.ev op with
    | some (ps, r) => gimp g ps (k (σ.put o.dst (.gd g r)))
    | none => Fail o
def bsplit (t : Bool) (A B : Prop) : Prop :=
  match t with
  | true => A
  | false => B
theorem bsplit_iff {t : Bool} {A B : Prop} : bsplit t A B ↔ (t = true → A) ∧ (t = false → B) := by
  cases t <;> simp [bsplit]
def vcGU (P : Program) (G : Cx) (g : Bool) (σ : Sig) (o : Oper) (k : Sig → Prop) : Prop :=
  match o.op with
  | .call { callee := .value f, args, .. } =>
    match σ.sv f with
    | .fn (.func fid) nf first nc cap =>
      match inl G fid (fnArgs nf first (args.toList.map σ.sv) nc cap) with
      | true => bsplit g (allP ((σ.ev f).gprop ++ gprops σ args.toList) (vcBody G σ fid (fnArgs nf first (args.toList.map σ.sv) nc cap) fun σ' r => k (σ'.put o.dst (.gd true r)))) (k (σ.put o.dst (.gd false (offAV P o.type))))
      | false => vcG P G g σ o k
    | .yl p =>
      match G.yld p with
      | some T => bsplit g (allP ((σ.ev f).gprop ++ gprops σ args.toList) (T σ.nb σ.bl (args.toList.map σ.sv) fun nb' bl' r => k (({ σ with nb := nb', bl := bl' } : Sig).put o.dst (.gd true r)))) (k (σ.put o.dst (.gd false (.v (.bool false)))))
      | none => Fail o
    | _ => vcG P G g σ o k
  | _ => vcG P G g σ o k
def vcOp (P : Program) (G : Cx) (ops : List Oper) (o : Oper) (σ : Sig) (k : Sig → Prop) : Prop :=
  match o.guard with
  | none => vcU P G σ o k
  | some (j, want) =>
    match guardAV ops σ j want with
    | some g =>
      match G.conc && !g with
      | true => k (σ.put o.dst (.gd false (offAV P o.type)))
      | false => vcGU P G g σ o k
    | none => Fail o
def vcOps (P : Program) (G : Cx) (ops : List Oper) : List Oper → Sig → (Sig → Prop) → Prop
  | [], σ, k => k σ
  | o :: rest, σ, k => vcOp P G ops o σ fun σ' => vcOps P G ops rest σ' k
end Go.Sx
