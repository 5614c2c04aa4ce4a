/- Regions in any order: what only computes or reads comes first, the rest in each order that there is. -/
import Derived.Test.YthbpnknhfokadaaGreatDoorSxM
set_option linter.unusedSimpArgs false
set_option linter.unusedVariables false
namespace Go.Sx
open Go Go.RowKit
section
variable {P : Program} {G : Cx} {m : Option Nat} {ops : List Oper}
theorem Ub {ex : TypeId → (AV → Prop) → Prop} (hex : ∀ t k, ex t k → ∃ r, (∀ k' : AV → Prop, k' r → ex t k') ∧ k r) :
  ∀ (ts : List TypeId) (k : List AV → Prop), Wx ex ts k → ∃ r, (∀ k' : List AV → Prop, k' r → Wx ex ts k') ∧ k r
 | [], _, h => ⟨[], fun _ h' => h', h⟩
 | t :: ts, k, h => by
  obtain ⟨v, h1, h2⟩ := hex t _ h
  obtain ⟨vs, h3, h4⟩ := Ub hex ts _ h2
  exact ⟨v :: vs, fun k' hk => h1 _ (h3 _ hk), h4⟩
theorem Rb : ∀ (n : Nat) (t : TypeId) (k : AV → Prop), uR P n t k → ∃ r, (∀ k' : AV → Prop, k' r → uR P n t k') ∧ k r
 | 0, _, _, ⟨r, hr⟩ => ⟨r, fun _ h => ⟨r, h⟩, hr⟩
 | n + 1, t, k, h => by
  unfold uR at h ⊢
  split at h
  ·grind
  ·grind
  ·grind
  ·grind
  ·obtain ⟨vs, h1, h2⟩ := Ub (Rb n) _ _ h
   grind
  grind
theorem Tp {σ : zK} {f : FuncId} {xs : List AV} (h : G.fre f xs = none) : Y1 G σ f xs = none := by unfold Y1; rw [h]
theorem oD {g : Option Bool} {f : FuncId} {xs : List AV} {t : TypeId} {K : AV → Prop} (h : xf P G g f xs t K) : ∃ r, (∀ k' : AV → Prop, k' r → xf P G g f xs t k') ∧ K r := by
 unfold xf at h ⊢
 split at h
 ·rename_i ps r _
  refine ⟨r, fun k' hk' => tR (fun _ => hk') h, ?_⟩
  cases g with
  | none => exact ((ZO _ _).1 h).2
  | some g => exact ((yO _ _ _).1 h).2
 ·obtain ⟨r, h3, h4, h5⟩ := Rb 3 _ _ h
  grind
theorem T2 {g : Option Bool} {f : FuncId} {xs : List AV} {t : TypeId} {K : AV → Prop} (h : wL P G g f xs t K) : ∃ r, (∀ k' : AV → Prop, k' r → wL P G g f xs t k') ∧ K r := by
 unfold wL at h ⊢
 split at h
 ·split at h
  ·grind
  ·exact h.elim
 ·exact oD h
def Lw (P : Program) (G : Cx) (g : Bool) (q : Option Bool) (σ : zK) (o : Oper) (x : AV) : Prop :=
 (∃ ps, ye P G.objs σ.bl σ.ev o.op = some (ps, x) ∧ (g = true → ∀ p ∈ ps, p.holds)) ∨
 (∃ t len parts, o.op = .buildSlice t len parts ∧ ¬ (((parts.toList.map fun p => σ.sv p.2).any AV.hasOwn || VB (parts.toList.map (·.2))) = true) ∧
  Zl P σ t len (parts.toList.map (·.1)) (parts.toList.map fun p => σ.sv p.2) = some (σ, x) ∧ (g = true → ∀ p ∈ Zc σ (parts.toList.map (·.2)), p.holds)) ∨
 (∃ f args ts fid nf first nc cap, o.op = .call { callee := .value f, args, argTypes := ts } ∧ σ.sv f = .fn (.func fid) nf first nc cap ∧
  (g = true → ∀ p ∈ (σ.ev f).gprop ++ Zc σ args.toList, p.holds) ∧ ¬ ((yA nf first (args.toList.map σ.sv) nc cap).any AV.hasOwn = true) ∧
  G.fre fid (yA nf first (args.toList.map σ.sv) nc cap) = none ∧ ∀ k' : AV → Prop, k' x → wL P G q fid (yA nf first (args.toList.map σ.sv) nc cap) o.type k')
def KU (P : Program) (G : Cx) (ops : List Oper) (σ : zK) (o : Oper) (x : AV) : Prop :=
 match o.guard with
 | none => Lw P G true none σ o x
 | some (j, want) => ∃ g x0, YX ops σ j want = some g ∧ x = .gd g x0 ∧ (((G.conc && !g) = true ∧ x0 = U0 P o.type) ∨ ((G.conc && !g) = false ∧ Lw P G g (some g) σ o x0))
def XO (G : Cx) (m : Option Nat) (σ : zK) (o : Oper) : Bool :=
 match o.op with
 | .alloc _ | .box _ _ | .store _ _ _ | .makeSlice _ _ _ | .call { callee := .builtin .append, .. } => false
 | .buildSlice _ _ parts => !(parts.toList.map fun p => σ.sv p.2).any AV.hasOwn
 | .call { callee := .value f, args, .. } =>
  match σ.sv f with
  | .fn (.func fid) nf first nc cap => !(yA nf first (args.toList.map σ.sv) nc cap).any AV.hasOwn && (G.fre fid (yA nf first (args.toList.map σ.sv) nc cap)).isNone
  | _ => false
 | op => op.operands.toList.all fun x =>
  match (σ.sv x).top with
  | some k => Nat.blt k (Qb m σ.nb)
  | none => true
def rS (G : Cx) (ops : List Oper) (σ : zK) (o : Oper) : Bool :=
 match o.guard with
 | some (j, want) =>
  match YX ops σ j want with
  | some g => G.conc && !g
  | none => false
 | none => false
def Xl (G : Cx) (m : Option Nat) (ops : List Oper) (σ : zK) (o : Oper) : Bool := rS G ops σ o || XO G m σ o
theorem qk {σ : zK} {o : Oper} {K : zK → Prop} (he : Xl G m ops σ o = true) (h : Xn P G m ops o σ K) : ∃ x, KU P G ops σ o x ∧ K (σ.put o.dst x) := by
 unfold Xn at h
 unfold KU
 cases hg : o.guard with
 | none =>
  have he : XO G m σ o = true := by
   unfold Xl rS at he
   simp_all
  rw [hg] at h
  simp only at h ⊢
  unfold Vm at h
  unfold XO at he
  split at h
  ·simp_all
  ·simp_all
  ·exact h.elim
  ·rename_i ho
   split at h
   ·exact h.elim
   ·rename_i hno
    split at h
    ·rename_i hb
     obtain ⟨rfl, _⟩ := Yp hb
     rw [ZO] at h
     exact ⟨_, .inr (.inl ⟨_, _, _, ho, hno, hb, fun _ => h.1⟩), h.2⟩
    ·exact h.elim
  ·simp_all
  ·rename_i f args ts ho
   split at h
   ·rename_i hf
    rw [ZO] at h
    obtain ⟨h1, h2⟩ := h
    split at h2
    ·simp_all
    ·rename_i hno
     simp only [ho, hf, Bool.and_eq_true, Option.isNone_iff_eq_none] at he
     rw [Tp he.2] at h2
     obtain ⟨r, h3, h5⟩ := T2 h2
     exact ⟨r, .inr (.inr ⟨f, args, ts, _, _, _, _, _, ho, hf, fun _ => h1, hno, he.2, h3⟩), h5⟩
   simp_all
  ·simp_all
  ·split at h
   ·rename_i hd
    rw [ZO] at h
    exact ⟨_, .inl ⟨_, hd, fun _ => h.1⟩, h.2⟩
   ·exact h.elim
 | some jw =>
  obtain ⟨j, want⟩ := jw
  rw [hg] at h
  simp only at h ⊢
  split at h
  ·rename_i g hga
   cases hc : G.conc && !g with
   | true =>
    simp_all
   | false =>
   rw [hc] at h
   have he : XO G m σ o = true := by
    unfold Xl rS at he
    simp_all
   simp only at h
   unfold se at h
   unfold XO at he
   split at h
   ·rename_i f args ts ho
    split at h
    ·rename_i hf
     rw [yO] at h
     obtain ⟨h1, h2⟩ := h
     simp only [ho, hf, Bool.and_eq_true, Bool.not_eq_true', Option.isNone_iff_eq_none] at he
     rw [if_neg (by rw [he.1]; simp)] at h2
     obtain ⟨r, h3, h5⟩ := T2 h2
     exact ⟨_, ⟨g, r, hga, rfl, .inr ⟨hc, .inr (.inr ⟨f, args, ts, _, _, _, _, _, ho, hf, h1, by rw [he.1]; simp, he.2, h3⟩)⟩⟩, h5⟩
    simp_all
   ·rename_i ho
    split at h
    ·exact h.elim
    ·rename_i hno
     split at h
     ·rename_i hb
      obtain ⟨rfl, _⟩ := Yp hb
      rw [yO] at h
      exact ⟨_, ⟨g, _, hga, rfl, .inr ⟨hc, .inr (.inl ⟨_, _, _, ho, hno, hb, h.1⟩)⟩⟩, h.2⟩
     ·exact h.elim
   ·split at h
    ·rename_i hd
     rw [yO] at h
     exact ⟨_, ⟨g, _, hga, rfl, .inr ⟨hc, .inl ⟨_, hd, h.1⟩⟩⟩, h.2⟩
    ·exact h.elim
  ·exact h.elim
theorem R9 {σ : zK} {o : Oper} {x : AV} {K : zK → Prop} (hr : KU P G ops σ o x) (h : K (σ.put o.dst x)) : Xn P G m ops o σ K := by
 unfold KU at hr
 unfold Xn
 cases hg : o.guard with
 | none =>
  rw [hg] at hr
  simp only at hr ⊢
  rcases hr with ⟨ps, h1, h2⟩ | ⟨tb, lb, parts, hob, hnob, heb, hgb⟩ | ⟨f, args, ts, fid, nf, first, nc, cap, ho, hf, h1, h2, hfr, h3⟩
  ·unfold Vm
   split
   ·rename_i ho; rw [ho] at h1; simp [ye, ZK] at h1
   ·rename_i ho; rw [ho] at h1; simp [ye, ZK] at h1
   ·rename_i ho; rw [ho] at h1; simp [ye, ZK] at h1
   ·rename_i ho; rw [ho] at h1; simp [ye, ZK] at h1
   ·rename_i ho; rw [ho] at h1; simp [ye, ZK] at h1
   ·rename_i ho; rw [ho] at h1; simp [ye, ZK] at h1
   ·rename_i ho; rw [ho] at h1; simp [ye, ZK, py] at h1
   ·rw [h1]
    simp only
    rw [ZO]
    simp_all
  ·simp only [Vm, hob, if_neg hnob, heb, ZO]
   simp_all
  ·simp only [Vm, ho, hf, ZO, if_neg h2, Tp hfr]
   simp_all
 | some jw =>
  obtain ⟨j, want⟩ := jw
  rw [hg] at hr
  simp only at hr ⊢
  obtain ⟨g, x0, hga, rfl, hr⟩ := hr
  rw [hga]
  simp only
  rcases hr with ⟨hc, rfl⟩ | ⟨hc, hr⟩
  ·simp_all
  rw [hc]
  simp only
  rcases hr with ⟨ps, h1, h2⟩ | ⟨tb, lb, parts, hob, hnob, heb, hgb⟩ | ⟨f, args, ts, fid, nf, first, nc, cap, ho, hf, h1, h2, hfr, h3⟩
  ·unfold se
   split
   ·rename_i ho; rw [ho] at h1; simp [ye, ZK] at h1
   ·rename_i ho; rw [ho] at h1; simp [ye, ZK] at h1
   ·rw [h1]
    simp only
    rw [yO]
    simp_all
  ·simp only [se, hob, if_neg hnob, heb, yO]
   simp_all
  ·simp only [se, ho, hf, yO, if_neg h2]
   simp_all
theorem yN.guard {σ σ' : zK} {d : Option Tmp} (h : yN m d σ σ') {j : Nat} {want : Bool} (hd : ∀ t, d = some t → (ops[j]?).bind (·.dst) ≠ some t) :
  YX ops σ' j want = YX ops σ j want := by
 unfold YX
 cases ho : ops[j]? with
 | none => rfl
 | some o =>
  simp only
  cases hod : o.dst with
  | none => rfl
  | some t =>
   simp only
   have hne : d ≠ some t := fun e => hd t e (by rw [ho, Option.bind_some, hod])
   rw [h.n, h.tm t hne]
theorem MG {σ σ' : zK} {o : Oper} {x : AV} {d : Option Tmp} (hG : yN m d σ σ') (h1 : ∀ t, d = some t → t ∉ o.looksAt ops.toArray) (he : Xl G m ops σ o = true) (hr : KU P G ops σ o x) :
  KU P G ops σ' o x ∧ Xl G m ops σ' o = true := by
 have hl := uD h1
 have hev : ∀ y ∈ o.op.operands, σ'.ev y = σ.ev y := fun y hy => hG.ev (hl y hy)
 have hsv : ∀ y ∈ o.op.operands, σ'.sv y = σ.sv y := fun y hy => YQ (hev y hy)
 have key : ∀ g q x, XO G m σ o = true → Lw P G g q σ o x → Lw P G g q σ' o x := by
  rintro g q x he (⟨ps, h1, h2⟩ | ⟨tb, lb, parts, hob, hnob, heb, hgb⟩ | ⟨f, args, ts, fid, nf, first, nc, cap, ho, hf, h1, h2, hfr, h3⟩)
  ·refine .inl ⟨ps, ?_, h2⟩
   rw [← h1]
   refine Vb hev fun y hy k hk => hG.bl k ?_
   have hall : (o.op.operands.toList.all fun x => match (σ.sv x).top with | some k => Nat.blt k (Qb m σ.nb) | none => true) = true := by
    unfold XO at he
    split at he
    ·cases he
    ·cases he
    ·cases he
    ·cases he
    ·cases he
    ·rename_i ho; rw [ho] at h1; simp [ye, ZK] at h1
    ·rename_i ho; rw [ho] at h1; simp [ye, ZK] at h1
    ·exact he
   have := List.all_eq_true.1 hall y (Array.mem_toList_iff.2 hy)
   rw [show (σ.sv y).top = some k from hk] at this
   simp_all
  ·have hin : ∀ p ∈ parts.toList, p.2 ∈ o.op.operands := fun p hp => by rw [hob]; simp only [Op.operands, List.mem_toArray, List.mem_map]; exact ⟨p, hp, rfl⟩
   have e1 : (parts.toList.map fun p => σ'.sv p.2) = parts.toList.map fun p => σ.sv p.2 := List.map_congr_left fun p hp => hsv _ (hin p hp)
   have e2 : Zc σ' (parts.toList.map (·.2)) = Zc σ (parts.toList.map (·.2)) := YP fun y hy => by
    obtain ⟨p, hp, rfl⟩ := List.mem_map.1 hy
    grind
   exact .inr (.inl ⟨tb, lb, parts, hob, by rw [e1]; exact hnob, by rw [e1]; exact (Yp heb).2 _, by rw [e2]; exact hgb⟩)
  ·have hin : ∀ y ∈ args.toList, y ∈ o.op.operands := fun y hy => by rw [ho]; simp only [Op.operands, Call.operands, Array.mem_append]; exact .inr (Array.mem_toList_iff.1 hy)
   have e1 := hev f (by rw [ho]; simp [Op.operands, Call.operands])
   have e2 : args.toList.map σ'.sv = args.toList.map σ.sv := List.map_congr_left fun y hy => hsv _ (hin y hy)
   have e3 : Zc σ' args.toList = Zc σ args.toList := YP fun y hy => hev _ (hin y hy)
   exact .inr (.inr ⟨f, args, ts, fid, nf, first, nc, cap, ho, by rw [YQ e1]; exact hf, by rw [e1, e3]; exact h1, by rw [e2]; exact h2, by rw [e2]; exact hfr, by rw [e2]; exact h3⟩)
 have hgd : ∀ j want, o.guard = some (j, want) → YX ops σ' j want = YX ops σ j want := fun j want hg => hG.guard (uw h1 hg)
 have hoff : rS G ops σ' o = rS G ops σ o := by
  unfold rS
  grind
 constructor
 ·unfold KU at hr ⊢
  cases hg : o.guard with
  | none =>
   rw [hg] at hr
   refine key _ _ _ ?_ hr
   unfold Xl rS at he
   simp_all
  | some jw =>
   obtain ⟨j, want⟩ := jw
   rw [hg] at hr
   obtain ⟨g, x0, h2, h3, h4⟩ := hr
   refine ⟨g, x0, by rw [hgd j want hg]; exact h2, h3, ?_⟩
   rcases h4 with h4 | ⟨hc, h4⟩
   ·exact .inl h4
   ·refine .inr ⟨hc, key _ _ _ ?_ h4⟩
    unfold Xl rS at he
    simp_all
 ·have hall : (o.op.operands.toList.all fun x => match (σ.sv x).top with | some k => Nat.blt k (Qb m σ.nb) | none => true) = true →
    (o.op.operands.toList.all fun x => match (σ'.sv x).top with | some k => Nat.blt k (Qb m σ'.nb) | none => true) = true := fun h => by
   rw [List.all_eq_true] at h ⊢
   intro y hy
   have := h y hy
   rw [hsv y (Array.mem_toList_iff.1 hy)]
   revert this
   split
   ·intro hk
    exact Nat.ble_eq_true_of_le (Nat.le_trans (Nat.le_of_ble_eq_true hk) (Nj hG.nb))
   simp
  unfold Xl at he ⊢
  rw [hoff]
  cases ho1 : rS G ops σ o with
  | true => rfl
  | false =>
  rw [ho1, Bool.false_or] at he
  rw [Bool.false_or]
  unfold XO at he ⊢
  split at he
  ·cases he
  ·cases he
  ·cases he
  ·cases he
  ·cases he
  ·rename_i parts ho
   have e1 : (parts.toList.map fun p => σ'.sv p.2) = parts.toList.map fun p => σ.sv p.2 := List.map_congr_left fun p hp => hsv _ (by rw [ho]; simp only [Op.operands, List.mem_toArray, List.mem_map]; exact ⟨p, hp, rfl⟩)
   grind
  ·rename_i f args ts ho
   have hin : ∀ y ∈ args.toList, y ∈ o.op.operands := fun y hy => by rw [ho]; simp only [Op.operands, Call.operands, Array.mem_append]; exact .inr (Array.mem_toList_iff.1 hy)
   have e1 := hev f (by rw [ho]; simp [Op.operands, Call.operands])
   have e2 : args.toList.map σ'.sv = args.toList.map σ.sv := List.map_congr_left fun y hy => hsv _ (hin y hy)
   rw [YQ e1, e2]
   exact he
  simp_all
end
end Go.Sx

namespace Go.Sx
universe u
open Go Go.RowKit
inductive mL (ops : List Oper) : Nat → Nat → Prop where
 | edge {i j : Nat} {o : Oper} {e : Edge} (ho : ops[j]? = some o) (he : e ∈ o.after) (hb : Region.binds .any e = true) (hi : e.on = i) : mL ops i j
 | step {i j : Nat} {o : Oper} {e : Edge} (ho : ops[j]? = some o) (he : e ∈ o.after) (hb : Region.binds .any e = true) (hi : mL ops i e.on) : mL ops i j
def XX (acc : List Nat) : List Edge → Nat
 | [] => 0
 | e :: es => bif Region.binds .any e then (1 <<< e.on) ||| acc.getD e.on 0 ||| XX acc es else XX acc es
def RD : List Oper → List Nat → List Nat
 | [], acc => acc
 | o :: os, acc => RD os (acc ++ [XX acc o.after.toList])
def Closed (ops : List Oper) (L : Array Bool) : Prop :=
 ∀ j o, ops[j]? = some o → L.getD j false = true → ∀ e ∈ o.after, Region.binds .any e = true → L.getD e.on false = true
def stepJ (P : Program) (G : Cx) (m : Option Nat) (ops : List Oper) (late : Bool) (o : Oper) (σ : zK) (k : zK → Prop) : Prop :=
 match late with
 | true => tc P G ops o σ k
 | false => Xn P G m ops o σ k
def wI (P : Program) (G : Cx) (m : Option Nat) (ops : List Oper) (late : Nat → Bool) : Nat → Array Bool → zK → (zK → Prop) → Prop
 | 0, L, σ, k => Region.ready .any ops.toArray L = [] ∧ k σ
 | f + 1, L, σ, k => (Region.ready .any ops.toArray L = [] → k σ) ∧
   ∀ j ∈ Region.ready .any ops.toArray L, ∀ o, ops[j]? = some o → stepJ P G m ops (late j) o σ fun σ' => wI P G m ops late f (L.setIfInBounds j true) σ' k
def Gr (ops : List Oper) (A : List Nat) (late : Nat → Bool) (L : Array Bool) (i : Nat) (oi : Oper) : Bool :=
 (List.range ops.length).all fun j => j == i || (A.getD j 0).testBit i || L.getD j true ||
  match ops[j]? with
  | some oj => !late j && oi.apart ops.toArray oj
  | none => true
def NL (G : Cx) (m : Option Nat) (ops : List Oper) (A : List Nat) (late : Nat → Bool) (L : Array Bool) (σ : zK) (i : Nat) : Bool :=
 match ops[i]? with
 | some o => Xl G m ops σ o && Gr ops A late L i o
 | none => false
def tZ (rs : List Nat) (p : Nat → Prop) : Prop :=
 match rs with
 | [] => True
 | [i] => p i
 | i :: rs => p i ∧ tZ rs p
def wm (P : Program) (G : Cx) (m : Option Nat) (ops : List Oper) (A : List Nat) (late : Nat → Bool) : Nat → Array Bool → zK → (zK → Prop) → Prop
 | 0, L, σ, k =>
  match Region.ready .any ops.toArray L with
  | [] => k σ
  | _ => False
 | f + 1, L, σ, k =>
  match Region.ready .any ops.toArray L with
  | [] => k σ
  | rs =>
   match rs.find? (NL G m ops A late L σ) with
   | some i =>
    match ops[i]? with
    | some o => Xn P G m ops o σ fun σ' => wm P G m ops A late f (L.setIfInBounds i true) σ' k
    | none => False
   | none => tZ rs fun i =>
    match ops[i]? with
    | some o => stepJ P G m ops (late i) o σ fun σ' => wm P G m ops A late f (L.setIfInBounds i true) σ' k
    | none => False
section
variable {P : Program} {G : Cx} {m : Option Nat} {ops : List Oper} {late : Nat → Bool}
theorem Xj {acc : List Nat} {i : Nat} : ∀ (es : List Edge), (XX acc es).testBit i = true → ∃ e ∈ es, Region.binds .any e = true ∧ (e.on = i ∨ (acc.getD e.on 0).testBit i = true)
 | [], h => by simp [XX] at h
 | e :: es, h => by
  unfold XX at h
  cases hb : Region.binds .any e with
  | false =>
   rw [hb] at h
   obtain ⟨e', h1, h2⟩ := Xj es h
   grind
  | true =>
   rw [hb] at h
   simp only [cond_true, Nat.testBit_or, Bool.or_eq_true] at h
   rcases h with (h | h) | h
   ·refine ⟨e, List.mem_cons_self, hb, .inl ?_⟩
    rw [Nat.one_shiftLeft, Nat.testBit_two_pow] at h
    simp_all
   ·simp_all
   ·obtain ⟨e', h1, h2⟩ := Xj es h
    grind
theorem To : ∀ (os : List Oper) (acc : List Nat), (∀ j, os[j]? = ops[acc.length + j]?) → (∀ j i, (acc.getD j 0).testBit i = true → mL ops i j) →
  ∀ j i, ((RD os acc).getD j 0).testBit i = true → mL ops i j
 | [], _, _, h, j, i, hi => h j i hi
 | o :: os, acc, ho, h, j, i, hi => by
  refine To os (acc ++ [XX acc o.after.toList]) (fun j => ?_) (fun j i hi => ?_) j i hi
  ·have := ho (j + 1)
   grind
  ·by_cases hj : j < acc.length
   ·grind
   ·by_cases hj' : j = acc.length
    ·subst hj'
     rw [List.getD_eq_getElem?_getD, List.getElem?_append_right (Nat.le_refl _)] at hi
     simp only [Nat.sub_self, List.getElem?_cons_zero, Option.getD_some] at hi
     obtain ⟨e, h1, h2, h3⟩ := Xj _ hi
     have ho' : ops[acc.length]? = some o := by simpa using (ho 0).symm
     rcases h3 with h3 | h3
     ·exact .edge ho' (Array.mem_toList_iff.1 h1) h2 h3
     ·exact .step ho' (Array.mem_toList_iff.1 h1) h2 (h _ _ h3)
    grind
theorem Q5 {L : Array Bool} (hL : Closed ops L) {i j : Nat} (h : mL ops i j) {o : Oper} (ho : ops[j]? = some o)
  (hj : ∀ e ∈ o.after, Region.binds .any e = true → L.getD e.on false = true) : L.getD i false = true := by
 induction h generalizing o with
 | edge ho' he hb hi =>
  grind
 | step ho' he hb hi ih =>
  rw [ho'] at ho
  cases ho
  have h1 := hj _ he hb
  rename_i e
  cases ho2 : ops[e.on]? with
  | none => cases hi with
   | edge h => rw [ho2] at h; cases h
   | step h => rw [ho2] at h; cases h
  | some o2 => exact ih ho2 (hL _ _ ho2 h1)
theorem Closed.set {L : Array Bool} (hL : Closed ops L) {j : Nat} (hj : j ∈ Region.ready .any ops.toArray L) : Closed ops (L.setIfInBounds j true) := by
 obtain ⟨hun, oj, hoj, hall⟩ := mem_ready.1 hj
 rw [List.getElem?_toArray] at hoj
 have keep : ∀ n, L.getD n false = true → (L.setIfInBounds j true).getD n false = true := fun n h => by
  by_cases e : j = n
  ·grind
  simp_all
 intro n o ho hn e he hb
 by_cases ejn : j = n
 ·simp_all
 ·refine keep _ (hL n o ho ?_ e he hb)
  simp_all
theorem first {i : Nat} {oi : Oper} {x : AV} {k : zK → Prop} (hi : ops[i]? = some oi) : ∀ (f : Nat) (L : Array Bool) (σ : zK), Closed ops L →
  (∀ j oj, ops[j]? = some oj → j ≠ i → L.getD j true = false → ¬ mL ops i j → late j = false ∧ oi.apart ops.toArray oj = true) → i ∈ Region.ready .any ops.toArray L →
  Xl G m ops σ oi = true → KU P G ops σ oi x → wI P G m ops late f (L.setIfInBounds i true) (σ.put oi.dst x) k → wI P G m ops late (f + 1) L σ k := by
 intro f
 have self : ∀ (f : Nat) (L : Array Bool) (σ : zK), KU P G ops σ oi x → wI P G m ops late f (L.setIfInBounds i true) (σ.put oi.dst x) k →
   stepJ P G m ops (late i) oi σ fun σ' => wI P G m ops late f (L.setIfInBounds i true) σ' k := fun f L σ hr H => by
  cases late i with
  | true => exact Ti (m := m) (R9 hr H)
  | false => exact R9 hr H
 induction f with
 | zero =>
  intro L σ hL hs hr he hres H
  refine ⟨fun h => (by rw [h] at hr; cases hr), fun j hj o ho => ?_⟩
  by_cases hji : j = i
  ·simp_all
  ·have := ready_mono hj hji
   rw [H.1] at this
   cases this
 | succ f ih =>
  intro L σ hL hs hr he hres H
  refine ⟨fun h => (by rw [h] at hr; cases hr), fun j hj o ho => ?_⟩
  by_cases hji : j = i
  ·simp_all
  ·have h1 := H.2 j (ready_mono hj hji) o ho
   obtain ⟨hjun, oj, hoj, hall⟩ := mem_ready.1 hj
   rw [List.getElem?_toArray, ho] at hoj
   cases hoj
   have hiun := (mem_ready.1 hr).1
   have hnot : ¬ mL ops i j := fun hA => by
    have := Q5 hL hA ho hall
    grind
   obtain ⟨hlate, hap⟩ := hs j o ho hji hjun hnot
   obtain ⟨a1, a2, a3⟩ := Oper.apart_spec hap
   rw [hlate] at h1 ⊢
   have h2 := O8 a1 a2 h1
   refine vZ (fun σ' h => ?_) h2
   obtain ⟨hG, hA⟩ := h
   obtain ⟨r1, r2⟩ := MG hG a3 he hres
   refine ih _ σ' (hL.set hj) (fun n on hn hni hnun hnA => ?_) (ready_mono hr (Ne.symm hji)) r2 r1 ?_
   ·refine hs n on hn hni ?_ hnA
    by_cases hjn : j = n
    all_goals simp_all
   ·rw [Array.setIfInBounds_comm _ _ hji]
    exact hA
theorem sT (rs : List Nat) (p : Nat → Prop) : tZ rs p ↔ ∀ i ∈ rs, p i := by
 induction rs with
 | nil => simp [tZ]
 | cons i rs ih =>
  cases rs with
  | nil => simp [tZ]
  | cons j rs => rw [show tZ (i :: j :: rs) p = (p i ∧ tZ (j :: rs) p) from rfl, ih]; simp
theorem V8 (hO : ZZ P G) {σ : zK} {f : FuncId} {xs : List AV} {k k' : zK → AV → Prop} (hk : ∀ σ x, k σ x → k' σ x) (h : W4 G σ f xs k) : W4 G σ f xs k' := by
 unfold W4 at h ⊢
 split at h
 ·rename_i T hT
  exact (hO.own f T hT).mono _ _ _ _ _ (fun nb bl x h => hk _ _ h) h
 ·exact h
theorem Ro (hO : ZZ P G) {σ : zK} {f : FuncId} {xs : List AV} {t : TypeId} {d : Option Tmp} {K K' : zK → Prop} (hk : ∀ σ, K σ → K' σ) (h : Wt P G σ f xs t d K) : Wt P G σ f xs t d K' := by
 unfold Wt at h ⊢
 split at h
 ·rename_i h1
  rw [if_pos h1]
  split at h
  ·rename_i T hT
   exact (hO.own f T hT).mono _ _ _ _ _ (fun nb bl x h => hk _ h) h
  ·split at h
   ·rename_i h2
    rw [if_pos h2]
    exact Yq (fun r hr => hk _ hr) h
   ·rename_i h2
    rw [if_neg h2]
    split at h
    ·split at h
     ·exact h.elim
     ·rename_i h3
      rw [if_neg h3]
      split at h
      ·exact zc (hk _) h
      ·exact Yq (fun r hr => hk _ hr) h
    ·exact h
 ·rename_i h1
  rw [if_neg h1]
  split at h
  ·exact zc (hk _) h
  split at h
  ·exact V8 hO (fun _ _ h => hk _ h) h
  ·exact Yq (fun r hr => hk _ hr) h
theorem Om (hO : ZZ P G) {g : Bool} {σ : zK} {o : Oper} {K K' : zK → Prop} (hk : ∀ σ, K σ → K' σ) (h : S9 P G g σ o K) : S9 P G g σ o K' := by
 unfold S9 at h ⊢
 split at h
 ·split at h
  ·split at h
   ·rw [zX] at h ⊢
    exact ⟨fun hg => zc (V8 hO fun _ _ h => hk _ h) (h.1 hg), fun hg => hk _ (h.2 hg)⟩
   ·exact v6 hk h
  ·split at h
   ·rename_i T hT
    rw [zX] at h ⊢
    exact ⟨fun hg => zc (hO.mono _ T hT _ _ _ _ _ fun nb bl x h => hk _ h) (h.1 hg), fun hg => hk _ (h.2 hg)⟩
   omega
  ·exact v6 hk h
 ·exact v6 hk h
theorem mN (hO : ZZ P G) {σ : zK} {o : Oper} {K K' : zK → Prop} (hk : ∀ σ, K σ → K' σ) (h : K8 P G σ o K) : K8 P G σ o K' := by
 unfold K8 at h ⊢
 split at h
 ·grind
 ·split at h
  ·exact zc (hk _) h
  ·exact h
 ·split at h
  ·split at h
   ·exact zc (hk _) h
   ·exact h
  omega
 ·split at h
  ·exact zc (hk _) h
  split at h
  ·split at h
   ·exact zc (hk _) h
   ·exact h
  ·exact h
 ·split at h
  ·exact zc (hk _) h
  ·exact h
 ·split at h
  ·exact zc (Ro hO hk) h
  ·split at h
   ·rename_i T hT
    exact zc (hO.mono _ T hT _ _ _ _ _ fun nb bl x h => hk _ h) h
   ·exact h
  ·exact h
 ·split at h
  ·split at h
   ·rename_i htt
    rw [if_pos htt]
    split at h
    ·exact zc (hk _) h
    ·exact h
   ·rename_i htt
    rw [if_neg htt]
    split at h
    ·exact zc (hk _) h
    omega
  ·exact h
 ·split at h
  ·exact zc (hk _) h
  ·exact h
theorem Tv (hO : ZZ P G) {σ : zK} {o : Oper} {K K' : zK → Prop} (hk : ∀ σ, K σ → K' σ) (h : tc P G ops o σ K) : tc P G ops o σ K' := by
 unfold tc at h ⊢
 split at h
 ·exact mN hO hk h
 ·split at h
  ·rename_i g _
   cases hc : G.conc && !g with
   | true => simp_all
   | false => rw [hc] at h; exact Om hO hk h
  ·exact h
theorem ub (hO : ZZ P G) {l : Bool} {σ : zK} {o : Oper} {K K' : zK → Prop} (hk : ∀ σ, K σ → K' σ) (h : stepJ P G m ops l o σ K) : stepJ P G m ops l o σ K' := by
 cases l with
 | true => exact Tv hO hk h
 | false => exact vZ hk h
theorem Mp {l : Bool} {σ : zK} {o : Oper} {K : zK → Prop} (h : stepJ P G m ops l o σ K) : tc P G ops o σ K := by
 cases l with
 | true => exact h
 | false => exact Ti h
theorem Nm {A : List Nat} {L : Array Bool} {i : Nat} {oi : Oper} (hA : ∀ j i, (A.getD j 0).testBit i = true → mL ops i j) (h : Gr ops A late L i oi = true) :
  ∀ j oj, ops[j]? = some oj → j ≠ i → L.getD j true = false → ¬ mL ops i j → late j = false ∧ oi.apart ops.toArray oj = true := fun j oj hj hji hun hno => by
 have hlt : j < ops.length := (List.getElem?_eq_some_iff.1 hj).1
 have := List.all_eq_true.1 h j (List.mem_range.2 hlt)
 grind
theorem VN (hO : ZZ P G) {A : List Nat} (hA : ∀ j i, (A.getD j 0).testBit i = true → mL ops i j) {k : zK → Prop} : ∀ (f : Nat) (L : Array Bool) (σ : zK), Closed ops L →
  wm P G m ops A late f L σ k → wI P G m ops late f L σ k
 | 0, L, σ, _, h => by
  unfold wm at h
  split at h
  ·rename_i hr; exact ⟨hr, h⟩
  simp_all
 | f + 1, L, σ, hL, h => by
  unfold wm at h
  split at h
  ·rename_i hr
   exact ⟨fun _ => h, fun j hj => by rw [hr] at hj; cases hj⟩
  ·rename_i hne
   split at h
   ·rename_i i hf
    have hmem := List.mem_of_find?_eq_some hf
    have he := List.find?_some hf
    split at h
    ·rename_i o ho
     unfold NL at he
     rw [ho] at he
     simp only [Bool.and_eq_true] at he
     obtain ⟨x, h1, h2⟩ := qk he.1 h
     exact first ho f L σ hL (Nm hA he.2) hmem he.1 h1 (VN hO hA f _ _ (hL.set hmem) h2)
    simp_all
   ·refine ⟨fun hr => (hne hr).elim, fun j hj o ho => ?_⟩
    have := (sT _ _).1 h j hj
    rw [ho] at this
    exact ub hO (fun σ' h' => VN hO hA f _ _ (hL.set hj) h') this
section
variable {E : Env} {r : Option Nat} {n : Nat}
theorem VU (hO : ZZ P E.G) (hY : Yr P E) {Q : Exit → Act → World → Prop} {k : zK → Prop} (hK : ∀ σ' a' w', k σ' → St E σ' a' w' → Q .normal a' w') : ∀ (f : Nat) (L : Array Bool) {σ : zK} {a : Act} {w : World},
  wI P E.G m ops late f L σ k → St E σ a w → wpAnyIn (FW r) n P .any ops.toArray Q f L a w
 | 0, _, _, _, _, h, hst => ⟨h.1, hK _ _ _ h.2 hst⟩
 | f + 1, L, σ, a, w, h, hst => by
  refine ⟨fun hr => hK _ _ _ (h.1 hr) hst, fun j hj => ?_⟩
  obtain ⟨_, o, ho, _⟩ := mem_ready.1 hj
  have ho' := ho
  rw [List.getElem?_toArray] at ho'
  have hv := Mp (h.2 j hj o ho')
  have key : ∀ σ' a' w', wI P E.G m ops late f (L.setIfInBounds j true) σ' k → St E σ' a' w' → wpAnyIn (FW r) n P .any ops.toArray Q f (L.setIfInBounds j true) a' w' :=
   fun σ' a' w' hv' hst' => VU hO hY hK f _ hv' hst'
  unfold wpOpIn
  rw [ho]
  simp only [tc] at hv ⊢
  cases hg : o.guard with
  | none =>
   rw [hg] at hv
   simp only [Region.wanted, hg, if_true]
   exact TS hO hY hv hst key
  | some jw =>
   obtain ⟨j', want⟩ := jw
   rw [hg] at hv
   simp only at hv
   split at hv
   ·rename_i g hga
    have hw : Region.wanted o (yielded ops.toArray a.tmps) = g := by
     obtain ⟨S, ρ, _, hF, _⟩ := hst
     simp only [Region.wanted, hg]
     exact V9 hga hF
    obtain ⟨h1, h2⟩ := UO (r := r) (n := n) (Q := Q) hO hY hv hst key
    rw [hw]
    cases g with
    | true => simp_all
    | false => rw [if_neg (by simp)]; exact ⟨fun _ _ => trivial, h2 rfl⟩
   ·exact hv.elim
theorem St.drew {σ : zK} {a : Act} {w : World} (h : St E σ a w) : St E σ a { w with drawn := w.drawn + 1 } := by
 obtain ⟨S, ρ, hM, hF, hD⟩ := h
 have hS : ∀ b, S b → S b ∧ ({ w with drawn := w.drawn + 1 } : World).heap[b]? = w.heap[b]? := fun b hb => ⟨hb, rfl⟩
 exact ⟨S, ρ, ⟨⟨hM.fr.os, hM.fr.tape, hM.fr.output, hM.fr.size, hM.fr.block, Nat.le_trans hM.fr.drawn (Tk w 1)⟩, hM.sb, hM.sup, hM.sub, hM.glob, hM.hi,
  fun k hk => (hM.ok k hk).mono hS (zi.refl _) fun _ _ => rfl, hM.own, hM.dis, hM.b0, hM.nbz, hM.ole⟩, hF.mono hS (zi.refl _), hD.mono hS⟩
def UN (j : Nat) : List Oper → List Nat → Bool
 | o :: os, a :: as => (a.testBit j || (match o.op with | .move _ => true | _ => false)) && UN j os as
 | _, _ => true
def RB (m : Nat) : Nat → List Oper → Bool
 | 0, _ => true
 | _, [] => true
 | j + 1, o :: os => (m.testBit 0 || (match o.op with | .move _ => true | _ => false)) && RB (m / 2) j os
def QZ (G : Cx) (ops : List Oper) (A : List Nat) (j : Nat) : Bool :=
 match ops[j]? with
 | some o =>
  match o.op with
  | .store _ _ _ => true
  | .call { callee := .value (.func f), .. } => (G.own f).isSome || (Nat.beq ((A.getD j 0) &&& (2 ^ j - 1)) (2 ^ j - 1) && UN j (ops.drop (j + 1)) (A.drop (j + 1)))
  | .call { callee := .builtin .append, .. } => RB (A.getD j 0) j ops
  | _ => Nat.beq ((A.getD j 0) &&& (2 ^ j - 1)) (2 ^ j - 1) && UN j (ops.drop (j + 1)) (A.drop (j + 1))
 | none => false
def Hx (o : Oper) : Bool :=
 match o.op with
 | .call { callee := .builtin .append, .. } => true
 | _ => false
def sI {α : Sort u} : Nat → (Nat → α) → α
 | 0, k => k 0
 | n + 1, k => sI n fun m => k (Nat.succ m)
theorem Wj {α : Sort u} : ∀ (n : Nat) (k : Nat → α), sI n k = k n
 | 0, _ => rfl
 | n + 1, k => Wj n _
def gp (σ : zK) : Nat := σ.nb
def Vl (P : Program) (G : Cx) (ops : List Oper) (σ : zK) (k : zK → Prop) : Prop :=
 match ops.any Hx with
 | true => sI (gp σ) fun m => wm P G (some m) ops (RD ops []) (QZ G ops (RD ops [])) ops.length (Array.replicate ops.length false) σ k
 | false => wm P G none ops (RD ops []) (QZ G ops (RD ops [])) ops.length (Array.replicate ops.length false) σ k
theorem QL (hO : ZZ P E.G) (hY : Yr P E) {id : Nat} {ops : Array Oper} {σ : zK} {a : Act} {w : World} {k : zK → Prop} {Q : Exit → Act → World → Prop} (hm : P.follows .mixedOrders = true) (hv : Vl P E.G ops.toList σ k) (hst : St E σ a w)
  (hK : ∀ σ' a' w', k σ' → St E σ' a' w' → Q .normal a' w') : (Code.region id ops true).wpIn (FW r) n P Q a w := by
 refine wpIn_region_any hm ?_
 obtain ⟨m, hv⟩ : ∃ m, wm P E.G m ops.toList (RD ops.toList []) (QZ E.G ops.toList (RD ops.toList [])) ops.toList.length (Array.replicate ops.toList.length false) σ k := by
  unfold Vl at hv
  split at hv
  ·rw [Wj] at hv; exact ⟨_, hv⟩
  grind
 have h1 := VN hO (To ops.toList [] (by simp) fun j i h => by simp at h) _ _ _ (fun j o _ hL => by simp [Array.getD_eq_getD_getElem?, Array.getElem?_replicate] at hL; split at hL <;> simp at hL) hv
 have := VU hO hY (r := r) (n := n) (Q := Q) hK _ _ h1 hst.drew
 omega
end
end
end Go.Sx

namespace Go.Sx
universe u
open Go Go.RowKit
def H5 : Value → Value → Prop
 | .int k a, .int k' b => k = k' ∧ a = b
 | .bool a, .bool b => a = b
 | x, y => x = y
theorem je {x y : Value} (h : H5 x y) : x = y := by
 unfold H5 at h
 grind
def W5 (p : Nat → Prop) : Nat → Prop
 | 0 => True
 | 1 => p 0
 | n + 1 => W5 p n ∧ p n
theorem X8 {p : Nat → Prop} {n : Nat} (h : W5 p n) : ∀ i, i < n → p i := by
 induction n with
 | zero => omega
 | succ n ih =>
  intro i hi
  cases n with
  | zero =>
   have : i = 0 := by omega
   rw [this]; exact h
  | succ n =>
   by_cases e : i = n + 1
   ·rw [e]; exact h.2
   ·exact ih h.1 i (by omega)
def zE : AV → AV → Prop
 | .v a, y =>
  match y with
  | .junk => True
  | .v b => H5 a b
  | .xl _ _ len _ => a = .slice none 0 0 ∧ len = 0
  | _ => False
 | .str a, y =>
  match y with
  | .junk => True
  | .str b => a = b
  | _ => False
 | .xl f sz len els, y =>
  match y with
  | .junk => True
  | .xl f' sz' len' els' => (f' = true → f = true) ∧ sz' = sz ∧ len' = len ∧ ∀ i j, i < len → j < sz → zE (els i j) (els' i j)
  | _ => False
 | .xq n cells off, y =>
  match y with
  | .junk => True
  | .xq n' cells' off' => n' = n ∧ off' = off ∧ W5 (fun i => zE (cells i) (cells' i)) n
  | _ => False
 | .np k o, y =>
  match y with
  | .junk => True
  | .np k' o' => k' = k ∧ o' = o
  | _ => False
 | .ns k o l, y =>
  match y with
  | .junk => True
  | .ns k' o' l' => k' = k ∧ o' = o ∧ l' = l
  | _ => False
 | .ap k i j, y =>
  match y with
  | .junk => True
  | .ap k' i' j' => k' = k ∧ i' = i ∧ j' = j
  | _ => False
 | .agg n cs, y =>
  match y with
  | .junk => True
  | .agg n' cs' => n' = n ∧ W5 (fun i => zE (cs i) (cs' i)) n
  | _ => False
 | .tup n cs, y =>
  match y with
  | .junk => True
  | .tup n' cs' => n' = n ∧ W5 (fun i => zE (cs i) (cs' i)) n
  | _ => False
 | .fn f nf a nc b, y =>
  match y with
  | .junk => True
  | .fn f' nf' a' nc' b' => f' = f ∧ nf' = nf ∧ nc' = nc ∧ W5 (fun i => zE (a i) (a' i)) nf ∧ W5 (fun i => zE (b i) (b' i)) nc
  | _ => False
 | .gd g x, y =>
  match y with
  | .junk => True
  | .gd g' x' => g' = g ∧ zE x x'
  | y => g = true ∧ zE x y
 | .yl k, y =>
  match y with
  | .junk => True
  | .yl k' => k' = k
  | _ => False
 | .nb p z, y =>
  match y with
  | .junk => True
  | .nb p' z' => p' = p ∧ (z = true → z' = true)
  | _ => False
 | .er z, y =>
  match y with
  | .junk => True
  | .er z' => z' = z
  | _ => False
 | .ps k l, y =>
  match y with
  | .junk => True
  | .ps k' l' => k' = k ∧ l' = l
  | _ => False
 | .junk, y =>
  match y with
  | .junk => True
  | _ => False
section
variable {w : World} {S : Nat → Prop}
theorem Xg {x y : AV} {v : Value} {ρ : Nat → Own} (hx : zf w S ρ x v) (h : zE x y) : zf w S ρ y v := by
 induction hx generalizing y with
 | v x =>
  unfold zE at h
  split at h
  ·exact .junk _
  ·rw [← je h]; exact .v _
  ·obtain ⟨rfl, rfl⟩ := h
   exact .xl none 0 (fun _ _ => undef) (Nat.le_refl _) (Nat.zero_le _) (fun _ => rfl) (fun i j hi _ => absurd hi (Nat.not_lt_zero _)) fun i j hi _ => absurd hi (Nat.not_lt_zero _)
  simp_all
 | str l =>
  unfold zE at h
  split at h
  ·exact .junk _
  ·rw [← h]; exact .str _
  simp_all
 | xl o cap cvs hle hm hf hc hr ih =>
  unfold zE at h
  split at h
  ·exact .junk _
  ·obtain ⟨h1, rfl, rfl, h4⟩ := h
   exact .xl o cap cvs hle hm (fun e => hf (h1 e)) hc fun i j hi hj => ih i j hi hj (h4 i j hi hj)
  simp_all
 | xq A cvs hc hr ih =>
  unfold zE at h
  split at h
  ·exact .junk _
  ·obtain ⟨rfl, rfl, h4⟩ := h
   exact .xq A cvs hc fun i hi => ih i hi (X8 h4 i hi)
  simp_all
 | np g h0 =>
  unfold zE at h
  split at h
  ·exact .junk _
  ·obtain ⟨rfl, rfl⟩ := h; exact .np g h0
  simp_all
 | ns g base cap sz L h0 hl hc =>
  unfold zE at h
  split at h
  ·exact .junk _
  ·obtain ⟨rfl, rfl, rfl⟩ := h; exact .ns g base cap sz L h0 hl hc
  simp_all
 | ns0 g base cap sz L A h0 hl hc hz =>
  unfold zE at h
  split at h
  ·exact .junk _
  ·obtain ⟨rfl, rfl, rfl⟩ := h; exact .ns0 g base cap sz L A h0 hl hc hz
  simp_all
 | nsn sz o h0 =>
  unfold zE at h
  split at h
  ·exact .junk _
  ·obtain ⟨rfl, rfl, rfl⟩ := h; exact .nsn sz o h0
  simp_all
 | ap g base cap sz L h0 hi hc =>
  unfold zE at h
  split at h
  ·exact .junk _
  ·obtain ⟨rfl, rfl, rfl⟩ := h; exact .ap g base cap sz L h0 hi hc
  simp_all
 | yl g r h0 =>
  unfold zE at h
  split at h
  ·exact .junk _
  ·rw [h]; exact .yl g r h0
  simp_all
 | dyl h0 hx =>
  unfold zE at h
  split at h
  ·exact .junk _
  ·rw [h]; exact .dyl h0 hx
  simp_all
 | dnp h0 hx =>
  unfold zE at h
  split at h
  ·exact .junk _
  ·obtain ⟨rfl, rfl⟩ := h; exact .dnp h0 hx
  simp_all
 | dns h0 hx =>
  unfold zE at h
  split at h
  ·exact .junk _
  ·obtain ⟨rfl, rfl, rfl⟩ := h; exact .dns h0 hx
  simp_all
 | dap h0 hx =>
  unfold zE at h
  split at h
  ·exact .junk _
  ·obtain ⟨rfl, rfl, rfl⟩ := h; exact .dap h0 hx
  simp_all
 | agg vs hn hr ih =>
  unfold zE at h
  split at h
  ·exact .junk _
  ·obtain ⟨rfl, h2⟩ := h; exact .agg vs hn fun i hi => ih i hi (X8 h2 i hi)
  simp_all
 | tup vs hn hr ih =>
  unfold zE at h
  split at h
  ·exact .junk _
  ·obtain ⟨rfl, h2⟩ := h; exact .tup vs hn fun i hi => ih i hi (X8 h2 i hi)
  simp_all
 | fn vs us hn hm hr hs ih1 ih2 =>
  unfold zE at h
  split at h
  ·exact .junk _
  ·obtain ⟨rfl, rfl, rfl, h4, h5⟩ := h
   exact .fn vs us hn hm (fun i hi => ih1 i hi (X8 h4 i hi)) fun i hi => ih2 i hi (X8 h5 i hi)
  simp_all
 | gd v h1 h2 ih =>
  unfold zE at h
  split at h
  ·exact .junk _
  ·obtain ⟨rfl, h4⟩ := h; exact .gd v (fun hg => ih hg h4) h2
  simp_all
 | nb t h0 =>
  unfold zE at h
  split at h
  ·exact .junk _
  ·obtain ⟨rfl, h2⟩ := h; exact .nb t fun e => h2 (h0 e)
  simp_all
 | er x h1 h2 =>
  unfold zE at h
  split at h
  ·exact .junk _
  ·rw [h]; exact .er x h1 h2
  simp_all
 | ps g cap h0 hc =>
  unfold zE at h
  split at h
  ·exact .junk _
  ·obtain ⟨rfl, rfl⟩ := h; exact .ps g cap h0 hc
  simp_all
 | dps h0 hx =>
  unfold zE at h
  split at h
  ·exact .junk _
  ·obtain ⟨rfl, rfl⟩ := h; exact .dps h0 hx
  simp_all
 | junk x =>
  unfold zE at h
  split at h
  ·exact .junk _
  simp_all
theorem zT : ∀ x : AV, zE x x
 | .v a => by
  show H5 a a
  cases a with
  | int => exact ⟨rfl, rfl⟩
  | bool => rfl
  | _ => exact (rfl : _ = _)
 | .str a => rfl
 | .xl f sz len els => ⟨fun h => h, rfl, rfl, fun i j _ _ => zT _⟩
 | .xq n cells off => ⟨rfl, rfl, by
  have h : ∀ i, zE (cells i) (cells i) := fun i => zT _
  induction n with
  | zero => trivial
  | succ n ih => cases n with
   | zero => exact h 0
   | succ n => exact ⟨ih, h _⟩⟩
 | .np k o => ⟨rfl, rfl⟩
 | .ns k o l => ⟨rfl, rfl, rfl⟩
 | .ap k i j => ⟨rfl, rfl, rfl⟩
 | .agg n cs => ⟨rfl, by
  have h : ∀ i, zE (cs i) (cs i) := fun i => zT _
  induction n with
  | zero => trivial
  | succ n ih => cases n with
   | zero => exact h 0
   | succ n => exact ⟨ih, h _⟩⟩
 | .tup n cs => ⟨rfl, by
  have h : ∀ i, zE (cs i) (cs i) := fun i => zT _
  induction n with
  | zero => trivial
  | succ n ih => cases n with
   | zero => exact h 0
   | succ n => exact ⟨ih, h _⟩⟩
 | .fn f nf a nc b => ⟨rfl, rfl, rfl, by
  have h : ∀ i, zE (a i) (a i) := fun i => zT _
  induction nf with
  | zero => trivial
  | succ n ih => cases n with
   | zero => exact h 0
   | succ n => exact ⟨ih, h _⟩, by
  have h : ∀ i, zE (b i) (b i) := fun i => zT _
  induction nc with
  | zero => trivial
  | succ n ih => cases n with
   | zero => exact h 0
   | succ n => exact ⟨ih, h _⟩⟩
 | .gd g x => ⟨rfl, zT x⟩
 | .yl k => (rfl : k = k)
 | .nb p z => ⟨rfl, fun h => h⟩
 | .er z => (rfl : z = z)
 | .ps k l => ⟨rfl, rfl⟩
 | .junk => trivial
theorem ZS {x y : AV} (h : x = y) : zE x y := h ▸ zT x
end
def rk : List (Option Nat) → Nat → Nat → Option Nat
 | [], _, _ => none
 | o :: os, i, k =>
  match o with
  | some k' => bif Nat.beq k' k then some i else rk os (i + 1) k
  | none => rk os (i + 1) k
def ren (inv : Nat → Option Nat) : AV → AV
 | .np k o =>
  match inv k with
  | some i => .np i o
  | none => .junk
 | .ns k o l =>
  match inv k with
  | some i => .ns i o l
  | none => .junk
 | .ap k i j =>
  match inv k with
  | some k' => .ap k' i j
  | none => .junk
 | .agg n cs => .agg n fun i => ren inv (cs i)
 | .tup n cs => .tup n fun i => ren inv (cs i)
 | .fn f nf a nc b => .fn f nf (fun i => ren inv (a i)) nc fun i => ren inv (b i)
 | .gd g x => .gd g (ren inv x)
 | .yl k =>
  match inv k with
  | some i => .yl i
  | none => .junk
 | .ps k l =>
  match inv k with
  | some i => .ps i l
  | none => .junk
 | x => x
theorem kT {w : World} {S : Nat → Prop} {ρ ρ' : Nat → Own} {inv : Nat → Option Nat} {x : AV} {v : Value} (hi : ∀ k i, inv k = some i → ρ' i = ρ k ∨ ρ' i = .dead) (h : zf w S ρ x v) :
  zf w S ρ' (ren inv x) v := by
 induction h with
 | v x => exact .v x
 | str l => exact .str l
 | xl o cap cvs hle hm hf hc hr ih => exact .xl o cap cvs hle hm hf hc hr
 | xq A cvs hc hr ih => exact .xq A cvs hc hr
 | np g h =>
  simp only [ren]
  split
  ·rename_i i e
   rcases hi _ _ e with e' | e'
   ·exact .np g (e'.trans h)
   ·exact .dnp e' ⟨_, rfl⟩
  ·exact .junk _
 | ns g base cap sz L h hl hc =>
  simp only [ren]
  split
  ·rename_i i e
   rcases hi _ _ e with e' | e'
   ·exact .ns g base cap sz L (e'.trans h) hl hc
   ·exact .dns e' ⟨_, _, rfl⟩
  ·exact .junk _
 | ns0 g base cap sz L A h hl hc h0 =>
  simp only [ren]
  split
  ·rename_i i e
   rcases hi _ _ e with e' | e'
   ·exact .ns0 g base cap sz L A (e'.trans h) hl hc h0
   ·exact .dns e' ⟨_, _, rfl⟩
  ·exact .junk _
 | nsn sz o h =>
  simp only [ren]
  split
  ·rename_i i e
   rcases hi _ _ e with e' | e'
   ·exact .nsn sz o (e'.trans h)
   ·exact .dns e' ⟨_, _, rfl⟩
  ·exact .junk _
 | ap g base cap sz L h hl hc =>
  simp only [ren]
  split
  ·rename_i i e
   rcases hi _ _ e with e' | e'
   ·exact .ap g base cap sz L (e'.trans h) hl hc
   ·exact .dap e' ⟨_, rfl⟩
  ·exact .junk _
 | yl g r h =>
  simp only [ren]
  split
  ·rename_i i e
   rcases hi _ _ e with e' | e'
   ·exact .yl g r (e'.trans h)
   ·exact .dyl e' ⟨_, rfl⟩
  ·exact .junk _
 | dyl h hx =>
  simp only [ren]
  split
  ·rename_i i e
   rcases hi _ _ e with e' | e'
   ·exact .dyl (e'.trans h) hx
   ·exact .dyl e' hx
  ·exact .junk _
 | dnp h hx =>
  simp only [ren]
  split
  ·rename_i i e
   rcases hi _ _ e with e' | e'
   ·exact .dnp (e'.trans h) hx
   ·exact .dnp e' hx
  ·exact .junk _
 | dns h hx =>
  simp only [ren]
  split
  ·rename_i i e
   rcases hi _ _ e with e' | e'
   ·exact .dns (e'.trans h) hx
   ·exact .dns e' hx
  ·exact .junk _
 | dap h hx =>
  simp only [ren]
  split
  ·rename_i i e
   rcases hi _ _ e with e' | e'
   ·exact .dap (e'.trans h) hx
   ·exact .dap e' hx
  ·exact .junk _
 | agg vs hn hr ih => exact .agg vs hn fun i h => ih i h hi
 | tup vs hn hr ih => exact .tup vs hn fun i h => ih i h hi
 | fn vs us hn hm hr hs ih1 ih2 => exact .fn vs us hn hm (fun i h => ih1 i h hi) fun i h => ih2 i h hi
 | gd v h h' ih => exact .gd v (fun h => ih h hi) h'
 | nb t h => exact .nb t h
 | er x h1 h2 => exact .er x h1 h2
 | ps g cap h hc =>
  simp only [ren]
  split
  ·rename_i i e
   rcases hi _ _ e with e' | e'
   ·exact .ps g cap (e'.trans h) hc
   ·exact .dps e' ⟨_, _, rfl⟩
  ·exact .junk _
 | dps h hx =>
  simp only [ren]
  split
  ·rename_i i e
   rcases hi _ _ e with e' | e'
   ·exact .dps (e'.trans h) hx
   ·exact .dps e' hx
  ·exact .junk _
 | junk x => exact .junk x
def HA (ks : List (Option Nat)) (x y : AV) : Prop :=
 match x, y with
 | .v (.slice none 0 0), .ns i o l => ks[i]? = some none ∧ o = 0 ∧ l = 0
 | .xl f _ len _, .ns i o l => ks[i]? = some none ∧ o = 0 ∧ l = 0 ∧ f = true ∧ len = 0
 | x, y => zE (ren (rk ks 0) x) y
def GC (ks : List (Option Nat)) : OB → OB → Prop
 | _, .dead => True
 | .box t n cells, .box t' n' cells' => t' = t ∧ n' = n ∧ W5 (fun i => HA ks (cells i) (cells' i)) n
 | .arr t sz len els, .arr t' sz' len' els' => t' = t ∧ sz' = sz ∧ len' = len ∧ ∀ i j, i < len → j < sz → zE (els i j) (els' i j)
 | .lrec st pend, .lrec st' pend' => st' = st ∧ pend' = pend
 | _, _ => False
def gQ : OB → Prop
 | .dead => True
 | .arr _ _ len _ => len = 0
 | _ => False
def rz : OB → Bool
 | .dead => true
 | _ => false
def distinct : List (Option Nat) → Bool
 | [] => true
 | some k :: ks => !ks.contains (some k) && distinct ks
 | none :: ks => distinct ks
def Hw (nb : Nat) : List (Option Nat) → Bool
 | [] => true
 | some k :: ks => Nat.blt k nb && Hw nb ks
 | none :: ks => Hw nb ks
def lk (vars : List (Nat × AV)) (t : Nat) : AV :=
 match vars with
 | [] => .junk
 | (t', x) :: vs => bif Nat.beq t' t then x else lk vs t
def nA (blks : List (Nat × OB)) (d : Nat → OB) (t : Nat) : OB :=
 match blks with
 | [] => d t
 | (t', x) :: vs => bif Nat.beq t' t then x else nA vs d t
def SE (σ : zK) (i : Nat) : List (Nat × AV) → Option Nat
 | [] => some i
 | (t, x) :: vs =>
  match x.top with
  | some k => bif Nat.beq k i then (σ.ev (.tmp t)).strip.top else SE σ i vs
  | none => SE σ i vs
def Qo (σ : zK) (i : Nat) : List (Nat × AV) → Option Nat
 | [] => none
 | (t, x) :: vs =>
  match x.top with
  | some k => bif Nat.beq k i then (σ.ev (.tmp t)).strip.top else Qo σ i vs
  | none => Qo σ i vs
def tV (σ : zK) (vars : List (Nat × AV)) (bl : Nat → OB) (i : Nat) : Nat → Option Nat
 | 0 => none
 | t + 1 =>
  match bl t, σ.bl ((SE σ t vars).getD t) with
  | .box _ n cs, .box _ _ cs' =>
   match (List.range n).findSome? (fun j => match (cs j).top with | some k => bif Nat.beq k i then (cs' j).strip.top else none | none => none) with
   | some k => some k
   | none => tV σ vars bl i t
  | _, _ => tV σ vars bl i t
def qq (σ : zK) : Option Nat → Option Nat
 | some k => bif Nat.blt k σ.nb && !rz (σ.bl k) then some k else none
 | none => none
def Pa (σ : zK) (vars : List (Nat × AV)) (bl : Nat → OB) (nb : Nat) : List (Option Nat) :=
 (List.range nb).map fun i => bif rz (bl i) then none else
  match qq σ (Qo σ i vars) with
  | some k => some k
  | none =>
   match qq σ (tV σ vars bl i nb) with
   | some k => some k
   | none => qq σ (SE σ i vars)
def Jm {α : Type} (p : α → Prop) : List α → Prop
 | [] => True
 | [x] => p x
 | x :: xs => p x ∧ Jm p xs
theorem Mx {α : Type} {p : α → Prop} {l : List α} (h : Jm p l) : ∀ x ∈ l, p x := by
 induction l with
 | nil => simp
 | cons y ys ih =>
  cases ys with
  | nil => intro x hx; rw [List.mem_singleton.1 hx]; exact h
  | cons z zs =>
   intro x hx
   rcases List.mem_cons.1 hx with e | e
   ·rw [e]; exact h.1
   ·exact ih h.2 x e
def WQ (n nb : Nat) (vars : List (Nat × AV)) (bl : Nat → OB) : zK := { n := n, tm := lk vars, nb := nb, bl := bl }
def HN (nb0 : Nat) (ks : List (Option Nat)) (bl : Nat → OB) : Bool :=
 (List.range nb0).all fun i => rz (bl i) || match ks[i]? with
  | some (some k) => Nat.beq k i
  | _ => false
def UR {α : Sort u} : List (Option Nat) → (List (Option Nat) → α) → α
 | [], k => k []
 | none :: l, k => UR l fun l' => k (none :: l')
 | some n :: l, k => sI n fun m => UR l fun l' => k (some m :: l')
theorem VQ {α : Sort u} : ∀ (l : List (Option Nat)) (k : List (Option Nat) → α), UR l k = k l
 | [], _ => rfl
 | none :: l, k => VQ l _
 | some n :: l, k => by
  unfold UR
  rw [Wj, VQ]
def nZ (ks : List (Option Nat)) (n nb0 : Nat) (σ : zK) (vars : List (Nat × AV)) (bl : Nat → OB) (nb : Nat) (more : Prop) : Prop :=
 match (Nat.beq σ.n n && (Nat.ble nb0 nb && HN nb0 ks bl)) && (distinct ks && Hw σ.nb ks) with
 | true => (more ∧ Jm (fun p : Nat × AV => HA ks (σ.ev (.tmp p.1)) p.2) vars) ∧
   W5 (fun i => match ks[i]? with
    | some (some k) => GC ks (σ.bl k) (bl i)
    | _ => gQ (bl i)) nb
 | false => False
def vw (n nb0 : Nat) (σ : zK) (vars : List (Nat × AV)) (bl : Nat → OB) (nb : Nat) (more : Prop) : Prop :=
 UR (Pa σ vars bl nb) fun ks => nZ ks n nb0 σ vars bl nb more
section
variable {E : Env} {w : World} {S : Nat → Prop} {ρ : Nat → Own}
theorem oV {ks : List (Option Nat)} {i0 k i : Nat} (h : rk ks i0 k = some i) : i0 ≤ i ∧ ks[i - i0]? = some (some k) := by
 induction ks generalizing i0 with
 | nil => cases h
 | cons o os ih =>
  simp only [rk] at h
  have step : rk os (i0 + 1) k = some i → i0 ≤ i ∧ (o :: os)[i - i0]? = some (some k) := fun h => by
   grind
  split at h
  ·rename_i k'
   cases hb : Nat.beq k' k with
   | true =>
    simp_all
   | false => simp_all
  simp_all
theorem td {ks : List (Option Nat)} (h : distinct ks = true) : ∀ (i j k : Nat), ks[i]? = some (some k) → ks[j]? = some (some k) → i = j := by
 induction ks with
 | nil => simp
 | cons o os ih =>
  intro i j k hi hj
  have hos : distinct os = true := by cases o with
   | none => exact h
   | some k => simp only [distinct, Bool.and_eq_true] at h; exact h.2
  have hne : o = some k → ∀ m, os[m]? ≠ some (some k) := fun e m hm => by
   subst e
   simp only [distinct, Bool.and_eq_true, Bool.not_eq_true', List.contains_eq_mem, decide_eq_false_iff_not] at h
   exact h.1 (List.mem_of_getElem? hm)
  grind
theorem UP {ks : List (Option Nat)} {nb : Nat} (h : Hw nb ks = true) : ∀ k, some k ∈ ks → k < nb := by
 induction ks with
 | nil => simp
 | cons o os ih =>
  intro k hk
  cases o with
  | none =>
   rcases List.mem_cons.1 hk with e | e
   ·cases e
   ·exact ih h k e
  | some k' =>
   simp only [Hw, Bool.and_eq_true] at h
   rcases List.mem_cons.1 hk with e | e
   all_goals simp_all
def YW (ks : List (Option Nat)) (bl : Nat → OB) (ρ : Nat → Own) (nb i : Nat) : Own :=
 if i < nb then
  match bl i, ks[i]? with
  | .dead, _ => .dead
  | _, some (some k) => ρ k
  | .arr _ sz _ _, _ => .nila sz
  | _, _ => .dead
 else .none
theorem rx (σ : zK) (vars : List (Nat × AV)) (bl : Nat → OB) (nb : Nat) : (Pa σ vars bl nb).length = nb := by simp [Pa]
theorem Pq {ρ' : Nat → Own} {ks : List (Option Nat)} {x y : AV} {v : Value} (hi : ∀ k i, rk ks 0 k = some i → ρ' i = ρ k ∨ ρ' i = .dead)
  (hn : ∀ i, ks[i]? = some none → ∃ sz, ρ' i = .nila sz ∨ ρ' i = .dead) (hx : zf w S ρ x v) (h : HA ks x y) : zf w S ρ' y v := by
 unfold HA at h
 split at h
 ·rename_i i o l
  obtain ⟨h1, rfl, rfl⟩ := h
  cases hx
  obtain ⟨sz, e | e⟩ := hn i h1
  ·exact .nsn sz none e
  ·exact .dns e ⟨_, _, rfl⟩
 ·rename_i f sz' len els i o l
  obtain ⟨h1, rfl, rfl, rfl, rfl⟩ := h
  cases hx with
  | xl o cap cvs hle hm hf hc hr =>
   obtain rfl : cap = 0 := hf rfl
   obtain ⟨sz, e | e⟩ := hn i h1
   ·exact .nsn sz o e
   ·exact .dns e ⟨_, _, rfl⟩
 ·exact Xg (kT hi hx) h
end
end Go.Sx
