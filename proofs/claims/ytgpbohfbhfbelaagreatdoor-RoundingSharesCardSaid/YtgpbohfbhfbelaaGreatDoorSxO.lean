/- Regions in any order: what only computes or reads comes first, the rest in each order that there is. -/
import Derived.Test.YtgpbohfbhfbelaaGreatDoorSxM
set_option linter.unusedSimpArgs false
set_option linter.unusedVariables false
namespace Go.Sx
open Go Go.RowKit
section
variable {P : Program} {G : Cx} {m : Option Nat} {ops : List Oper}
theorem Tx {ex : TypeId → (AV → Prop) → Prop} (hex : ∀ t k, ex t k → ∃ r, (∀ k' : AV → Prop, k' r → ex t k') ∧ k r) :
  ∀ (ts : List TypeId) (k : List AV → Prop), Wb ex ts k → ∃ r, (∀ k' : List AV → Prop, k' r → Wb ex ts k') ∧ k r
 | [], _, h => ⟨[], fun _ h' => h', h⟩
 | t :: ts, k, h => by
  obtain ⟨v, h1, h2⟩ := hex t _ h
  obtain ⟨vs, h3, h4⟩ := Tx hex ts _ h2
  exact ⟨v :: vs, fun k' hk => h1 _ (h3 _ hk), h4⟩
theorem RA : ∀ (n : Nat) (t : TypeId) (k : AV → Prop), Ux P n t k → ∃ r, (∀ k' : AV → Prop, k' r → Ux P n t k') ∧ k r
 | 0, _, _, ⟨r, hr⟩ => ⟨r, fun _ h => ⟨r, h⟩, hr⟩
 | n + 1, t, k, h => by
  unfold Ux at h ⊢
  split at h
  ·grind
  ·grind
  ·grind
  ·grind
  ·obtain ⟨vs, h1, h2⟩ := Tx (RA n) _ _ h
   grind
  grind
theorem Sv {σ : zh} {f : FuncId} {xs : List AV} (h : G.fre f xs = none) : xy G σ f xs = none := by unfold xy; rw [h]
theorem OS {g : Option Bool} {f : FuncId} {xs : List AV} {t : TypeId} {K : AV → Prop} (h : x9 P G g f xs t K) : ∃ r, (∀ k' : AV → Prop, k' r → x9 P G g f xs t k') ∧ K r := by
 unfold x9 at h ⊢
 split at h
 ·rename_i ps r _
  refine ⟨r, fun k' hk' => tJ (fun _ => hk') h, ?_⟩
  cases g with
  | none => exact ((Zo _ _).1 h).2
  | some g => exact ((yi _ _ _).1 h).2
 ·obtain ⟨r, h3, h4, h5⟩ := RA 3 _ _ h
  grind
theorem SN {g : Option Bool} {f : FuncId} {xs : List AV} {t : TypeId} {K : AV → Prop} (h : Wy P G g f xs t K) : ∃ r, (∀ k' : AV → Prop, k' r → Wy P G g f xs t k') ∧ K r := by
 unfold Wy at h ⊢
 split at h
 ·split at h
  ·grind
  ·exact h.elim
 ·exact OS h
def ja (P : Program) (G : Cx) (g : Bool) (q : Option Bool) (σ : zh) (o : Oper) (x : AV) : Prop :=
 (∃ ps, y6 P G.objs σ.bl σ.ev o.op = some (ps, x) ∧ (g = true → ∀ p ∈ ps, p.holds)) ∨
 (∃ t len parts, o.op = .buildSlice t len parts ∧ ¬ (((parts.toList.map fun p => σ.sv p.2).any AV.hasOwn || V1 (parts.toList.map (·.2))) = true) ∧
  ZM P σ t len (parts.toList.map (·.1)) (parts.toList.map fun p => σ.sv p.2) = some (σ, x) ∧ (g = true → ∀ p ∈ Zc σ (parts.toList.map (·.2)), p.holds)) ∨
 (∃ f args ts fid nf first nc cap, o.op = .call { callee := .value f, args, argTypes := ts } ∧ σ.sv f = .fn (.func fid) nf first nc cap ∧
  (g = true → ∀ p ∈ (σ.ev f).gprop ++ Zc σ args.toList, p.holds) ∧ ¬ ((Yw nf first (args.toList.map σ.sv) nc cap).any AV.hasOwn = true) ∧
  G.fre fid (Yw nf first (args.toList.map σ.sv) nc cap) = none ∧ ∀ k' : AV → Prop, k' x → Wy P G q fid (Yw nf first (args.toList.map σ.sv) nc cap) o.type k')
def K0 (P : Program) (G : Cx) (ops : List Oper) (σ : zh) (o : Oper) (x : AV) : Prop :=
 match o.guard with
 | none => ja P G true none σ o x
 | some (j, want) => ∃ g x0, YS ops σ j want = some g ∧ x = .gd g x0 ∧ (((G.conc && !g) = true ∧ x0 = UC P o.type) ∨ ((G.conc && !g) = false ∧ ja P G g (some g) σ o x0))
def Xf (G : Cx) (m : Option Nat) (σ : zh) (o : Oper) : Bool :=
 match o.op with
 | .alloc _ | .box _ _ | .store _ _ _ | .makeSlice _ _ _ | .call { callee := .builtin .append, .. } => false
 | .buildSlice _ _ parts => !(parts.toList.map fun p => σ.sv p.2).any AV.hasOwn
 | .call { callee := .value f, args, .. } =>
  match σ.sv f with
  | .fn (.func fid) nf first nc cap => !(Yw nf first (args.toList.map σ.sv) nc cap).any AV.hasOwn && (G.fre fid (Yw nf first (args.toList.map σ.sv) nc cap)).isNone
  | _ => false
 | op => op.operands.toList.all fun x =>
  match (σ.sv x).top with
  | some k => Nat.blt k (Qo m σ.nb)
  | none => true
def rH (G : Cx) (ops : List Oper) (σ : zh) (o : Oper) : Bool :=
 match o.guard with
 | some (j, want) =>
  match YS ops σ j want with
  | some g => G.conc && !g
  | none => false
 | none => false
def XC (G : Cx) (m : Option Nat) (ops : List Oper) (σ : zh) (o : Oper) : Bool := rH G ops σ o || Xf G m σ o
theorem pm {σ : zh} {o : Oper} {K : zh → Prop} (he : XC G m ops σ o = true) (h : XF P G m ops o σ K) : ∃ x, K0 P G ops σ o x ∧ K (σ.put o.dst x) := by
 unfold XF at h
 unfold K0
 cases hg : o.guard with
 | none =>
  have he : Xf G m σ o = true := by
   unfold XC rH at he
   simp_all
  rw [hg] at h
  simp only at h ⊢
  unfold ux at h
  unfold Xf at he
  split at h
  ·simp_all
  ·simp_all
  ·exact h.elim
  ·rename_i ho
   split at h
   ·exact h.elim
   ·rename_i hno
    split at h
    ·rename_i hb
     obtain ⟨rfl, _⟩ := YJ hb
     rw [Zo] at h
     exact ⟨_, .inr (.inl ⟨_, _, _, ho, hno, hb, fun _ => h.1⟩), h.2⟩
    ·exact h.elim
  ·simp_all
  ·rename_i f args ts ho
   split at h
   ·rename_i hf
    rw [Zo] at h
    obtain ⟨h1, h2⟩ := h
    split at h2
    ·simp_all
    ·rename_i hno
     simp only [ho, hf, Bool.and_eq_true, Option.isNone_iff_eq_none] at he
     rw [Sv he.2] at h2
     obtain ⟨r, h3, h5⟩ := SN h2
     exact ⟨r, .inr (.inr ⟨f, args, ts, _, _, _, _, _, ho, hf, fun _ => h1, hno, he.2, h3⟩), h5⟩
   simp_all
  ·simp_all
  ·split at h
   ·rename_i hd
    rw [Zo] at h
    exact ⟨_, .inl ⟨_, hd, fun _ => h.1⟩, h.2⟩
   ·exact h.elim
 | some jw =>
  obtain ⟨j, want⟩ := jw
  rw [hg] at h
  simp only at h ⊢
  split at h
  ·rename_i g hga
   cases hc : G.conc && !g with
   | true =>
    simp_all
   | false =>
   rw [hc] at h
   have he : Xf G m σ o = true := by
    unfold XC rH at he
    simp_all
   simp only at h
   unfold rE at h
   unfold Xf at he
   split at h
   ·rename_i f args ts ho
    split at h
    ·rename_i hf
     rw [yi] at h
     obtain ⟨h1, h2⟩ := h
     simp only [ho, hf, Bool.and_eq_true, Bool.not_eq_true', Option.isNone_iff_eq_none] at he
     rw [if_neg (by rw [he.1]; simp)] at h2
     obtain ⟨r, h3, h5⟩ := SN h2
     exact ⟨_, ⟨g, r, hga, rfl, .inr ⟨hc, .inr (.inr ⟨f, args, ts, _, _, _, _, _, ho, hf, h1, by rw [he.1]; simp, he.2, h3⟩)⟩⟩, h5⟩
    simp_all
   ·rename_i ho
    split at h
    ·exact h.elim
    ·rename_i hno
     split at h
     ·rename_i hb
      obtain ⟨rfl, _⟩ := YJ hb
      rw [yi] at h
      exact ⟨_, ⟨g, _, hga, rfl, .inr ⟨hc, .inr (.inl ⟨_, _, _, ho, hno, hb, h.1⟩)⟩⟩, h.2⟩
     ·exact h.elim
   ·split at h
    ·rename_i hd
     rw [yi] at h
     exact ⟨_, ⟨g, _, hga, rfl, .inr ⟨hc, .inl ⟨_, hd, h.1⟩⟩⟩, h.2⟩
    ·exact h.elim
  ·exact h.elim
theorem qn {σ : zh} {o : Oper} {x : AV} {K : zh → Prop} (hr : K0 P G ops σ o x) (h : K (σ.put o.dst x)) : XF P G m ops o σ K := by
 unfold K0 at hr
 unfold XF
 cases hg : o.guard with
 | none =>
  rw [hg] at hr
  simp only at hr ⊢
  rcases hr with ⟨ps, h1, h2⟩ | ⟨tb, lb, parts, hob, hnob, heb, hgb⟩ | ⟨f, args, ts, fid, nf, first, nc, cap, ho, hf, h1, h2, hfr, h3⟩
  ·unfold ux
   split
   ·rename_i ho; rw [ho] at h1; simp [y6, ZK] at h1
   ·rename_i ho; rw [ho] at h1; simp [y6, ZK] at h1
   ·rename_i ho; rw [ho] at h1; simp [y6, ZK] at h1
   ·rename_i ho; rw [ho] at h1; simp [y6, ZK] at h1
   ·rename_i ho; rw [ho] at h1; simp [y6, ZK] at h1
   ·rename_i ho; rw [ho] at h1; simp [y6, ZK] at h1
   ·rename_i ho; rw [ho] at h1; simp [y6, ZK, QM] at h1
   ·rw [h1]
    simp only
    rw [Zo]
    simp_all
  ·simp only [ux, hob, if_neg hnob, heb, Zo]
   simp_all
  ·simp only [ux, ho, hf, Zo, if_neg h2, Sv hfr]
   simp_all
 | some jw =>
  obtain ⟨j, want⟩ := jw
  rw [hg] at hr
  simp only at hr ⊢
  obtain ⟨g, x0, hga, rfl, hr⟩ := hr
  rw [hga]
  simp only
  rcases hr with ⟨hc, rfl⟩ | ⟨hc, hr⟩
  ·simp_all
  rw [hc]
  simp only
  rcases hr with ⟨ps, h1, h2⟩ | ⟨tb, lb, parts, hob, hnob, heb, hgb⟩ | ⟨f, args, ts, fid, nf, first, nc, cap, ho, hf, h1, h2, hfr, h3⟩
  ·unfold rE
   split
   ·rename_i ho; rw [ho] at h1; simp [y6, ZK] at h1
   ·rename_i ho; rw [ho] at h1; simp [y6, ZK] at h1
   ·rw [h1]
    simp only
    rw [yi]
    simp_all
  ·simp only [rE, hob, if_neg hnob, heb, yi]
   simp_all
  ·simp only [rE, ho, hf, yi, if_neg h2]
   simp_all
theorem yJ.guard {σ σ' : zh} {d : Option Tmp} (h : yJ m d σ σ') {j : Nat} {want : Bool} (hd : ∀ t, d = some t → (ops[j]?).bind (·.dst) ≠ some t) :
  YS ops σ' j want = YS ops σ j want := by
 unfold YS
 cases ho : ops[j]? with
 | none => rfl
 | some o =>
  simp only
  cases hod : o.dst with
  | none => rfl
  | some t =>
   simp only
   have hne : d ≠ some t := fun e => hd t e (by rw [ho, Option.bind_some, hod])
   rw [h.n, h.tm t hne]
theorem Nk {σ σ' : zh} {o : Oper} {x : AV} {d : Option Tmp} (hG : yJ m d σ σ') (h1 : ∀ t, d = some t → t ∉ o.looksAt ops.toArray) (he : XC G m ops σ o = true) (hr : K0 P G ops σ o x) :
  K0 P G ops σ' o x ∧ XC G m ops σ' o = true := by
 have hl := Tw h1
 have hev : ∀ y ∈ o.op.operands, σ'.ev y = σ.ev y := fun y hy => hG.ev (hl y hy)
 have hsv : ∀ y ∈ o.op.operands, σ'.sv y = σ.sv y := fun y hy => YO (hev y hy)
 have key : ∀ g q x, Xf G m σ o = true → ja P G g q σ o x → ja P G g q σ' o x := by
  rintro g q x he (⟨ps, h1, h2⟩ | ⟨tb, lb, parts, hob, hnob, heb, hgb⟩ | ⟨f, args, ts, fid, nf, first, nc, cap, ho, hf, h1, h2, hfr, h3⟩)
  ·refine .inl ⟨ps, ?_, h2⟩
   rw [← h1]
   refine Vb hev fun y hy k hk => hG.bl k ?_
   have hall : (o.op.operands.toList.all fun x => match (σ.sv x).top with | some k => Nat.blt k (Qo m σ.nb) | none => true) = true := by
    unfold Xf at he
    split at he
    ·cases he
    ·cases he
    ·cases he
    ·cases he
    ·cases he
    ·rename_i ho; rw [ho] at h1; simp [y6, ZK] at h1
    ·rename_i ho; rw [ho] at h1; simp [y6, ZK] at h1
    ·exact he
   have := List.all_eq_true.1 hall y (Array.mem_toList_iff.2 hy)
   rw [show (σ.sv y).top = some k from hk] at this
   simp_all
  ·have hin : ∀ p ∈ parts.toList, p.2 ∈ o.op.operands := fun p hp => by rw [hob]; simp only [Op.operands, List.mem_toArray, List.mem_map]; exact ⟨p, hp, rfl⟩
   have e1 : (parts.toList.map fun p => σ'.sv p.2) = parts.toList.map fun p => σ.sv p.2 := List.map_congr_left fun p hp => hsv _ (hin p hp)
   have e2 : Zc σ' (parts.toList.map (·.2)) = Zc σ (parts.toList.map (·.2)) := YI fun y hy => by
    obtain ⟨p, hp, rfl⟩ := List.mem_map.1 hy
    grind
   exact .inr (.inl ⟨tb, lb, parts, hob, by rw [e1]; exact hnob, by rw [e1]; exact (YJ heb).2 _, by rw [e2]; exact hgb⟩)
  ·have hin : ∀ y ∈ args.toList, y ∈ o.op.operands := fun y hy => by rw [ho]; simp only [Op.operands, Call.operands, Array.mem_append]; exact .inr (Array.mem_toList_iff.1 hy)
   have e1 := hev f (by rw [ho]; simp [Op.operands, Call.operands])
   have e2 : args.toList.map σ'.sv = args.toList.map σ.sv := List.map_congr_left fun y hy => hsv _ (hin y hy)
   have e3 : Zc σ' args.toList = Zc σ args.toList := YI fun y hy => hev _ (hin y hy)
   exact .inr (.inr ⟨f, args, ts, fid, nf, first, nc, cap, ho, by rw [YO e1]; exact hf, by rw [e1, e3]; exact h1, by rw [e2]; exact h2, by rw [e2]; exact hfr, by rw [e2]; exact h3⟩)
 have hgd : ∀ j want, o.guard = some (j, want) → YS ops σ' j want = YS ops σ j want := fun j want hg => hG.guard (uH h1 hg)
 have hoff : rH G ops σ' o = rH G ops σ o := by
  unfold rH
  grind
 constructor
 ·unfold K0 at hr ⊢
  cases hg : o.guard with
  | none =>
   rw [hg] at hr
   refine key _ _ _ ?_ hr
   unfold XC rH at he
   simp_all
  | some jw =>
   obtain ⟨j, want⟩ := jw
   rw [hg] at hr
   obtain ⟨g, x0, h2, h3, h4⟩ := hr
   refine ⟨g, x0, by rw [hgd j want hg]; exact h2, h3, ?_⟩
   rcases h4 with h4 | ⟨hc, h4⟩
   ·exact .inl h4
   ·refine .inr ⟨hc, key _ _ _ ?_ h4⟩
    unfold XC rH at he
    simp_all
 ·have hall : (o.op.operands.toList.all fun x => match (σ.sv x).top with | some k => Nat.blt k (Qo m σ.nb) | none => true) = true →
    (o.op.operands.toList.all fun x => match (σ'.sv x).top with | some k => Nat.blt k (Qo m σ'.nb) | none => true) = true := fun h => by
   rw [List.all_eq_true] at h ⊢
   intro y hy
   have := h y hy
   rw [hsv y (Array.mem_toList_iff.1 hy)]
   revert this
   split
   ·intro hk
    exact Nat.ble_eq_true_of_le (Nat.le_trans (Nat.le_of_ble_eq_true hk) (lC hG.nb))
   simp
  unfold XC at he ⊢
  rw [hoff]
  cases ho1 : rH G ops σ o with
  | true => rfl
  | false =>
  rw [ho1, Bool.false_or] at he
  rw [Bool.false_or]
  unfold Xf at he ⊢
  split at he
  ·cases he
  ·cases he
  ·cases he
  ·cases he
  ·cases he
  ·rename_i parts ho
   have e1 : (parts.toList.map fun p => σ'.sv p.2) = parts.toList.map fun p => σ.sv p.2 := List.map_congr_left fun p hp => hsv _ (by rw [ho]; simp only [Op.operands, List.mem_toArray, List.mem_map]; exact ⟨p, hp, rfl⟩)
   grind
  ·rename_i f args ts ho
   have hin : ∀ y ∈ args.toList, y ∈ o.op.operands := fun y hy => by rw [ho]; simp only [Op.operands, Call.operands, Array.mem_append]; exact .inr (Array.mem_toList_iff.1 hy)
   have e1 := hev f (by rw [ho]; simp [Op.operands, Call.operands])
   have e2 : args.toList.map σ'.sv = args.toList.map σ.sv := List.map_congr_left fun y hy => hsv _ (hin y hy)
   rw [YO e1, e2]
   exact he
  simp_all
end
end Go.Sx

namespace Go.Sx
universe u
open Go Go.RowKit
inductive Nc (ops : List Oper) : Nat → Nat → Prop where
 | edge {i j : Nat} {o : Oper} {e : Edge} (ho : ops[j]? = some o) (he : e ∈ o.after) (hb : Region.binds .any e = true) (hi : e.on = i) : Nc ops i j
 | step {i j : Nat} {o : Oper} {e : Edge} (ho : ops[j]? = some o) (he : e ∈ o.after) (hb : Region.binds .any e = true) (hi : Nc ops i e.on) : Nc ops i j
def Xp (acc : List Nat) : List Edge → Nat
 | [] => 0
 | e :: es => bif Region.binds .any e then (1 <<< e.on) ||| acc.getD e.on 0 ||| Xp acc es else Xp acc es
def qC : List Oper → List Nat → List Nat
 | [], acc => acc
 | o :: os, acc => qC os (acc ++ [Xp acc o.after.toList])
def Closed (ops : List Oper) (L : Array Bool) : Prop :=
 ∀ j o, ops[j]? = some o → L.getD j false = true → ∀ e ∈ o.after, Region.binds .any e = true → L.getD e.on false = true
def stepJ (P : Program) (G : Cx) (m : Option Nat) (ops : List Oper) (late : Bool) (o : Oper) (σ : zh) (k : zh → Prop) : Prop :=
 match late with
 | true => T5 P G ops o σ k
 | false => XF P G m ops o σ k
def Wl (P : Program) (G : Cx) (m : Option Nat) (ops : List Oper) (late : Nat → Bool) : Nat → Array Bool → zh → (zh → Prop) → Prop
 | 0, L, σ, k => Region.ready .any ops.toArray L = [] ∧ k σ
 | f + 1, L, σ, k => (Region.ready .any ops.toArray L = [] → k σ) ∧
   ∀ j ∈ Region.ready .any ops.toArray L, ∀ o, ops[j]? = some o → stepJ P G m ops (late j) o σ fun σ' => Wl P G m ops late f (L.setIfInBounds j true) σ' k
def Ev (ops : List Oper) (A : List Nat) (late : Nat → Bool) (L : Array Bool) (i : Nat) (oi : Oper) : Bool :=
 (List.range ops.length).all fun j => j == i || (A.getD j 0).testBit i || L.getD j true ||
  match ops[j]? with
  | some oj => !late j && oi.apart ops.toArray oj
  | none => true
def N2 (G : Cx) (m : Option Nat) (ops : List Oper) (A : List Nat) (late : Nat → Bool) (L : Array Bool) (σ : zh) (i : Nat) : Bool :=
 match ops[i]? with
 | some o => XC G m ops σ o && Ev ops A late L i o
 | none => false
def TW (rs : List Nat) (p : Nat → Prop) : Prop :=
 match rs with
 | [] => True
 | [i] => p i
 | i :: rs => p i ∧ TW rs p
def WY (P : Program) (G : Cx) (m : Option Nat) (ops : List Oper) (A : List Nat) (late : Nat → Bool) : Nat → Array Bool → zh → (zh → Prop) → Prop
 | 0, L, σ, k =>
  match Region.ready .any ops.toArray L with
  | [] => k σ
  | _ => False
 | f + 1, L, σ, k =>
  match Region.ready .any ops.toArray L with
  | [] => k σ
  | rs =>
   match rs.find? (N2 G m ops A late L σ) with
   | some i =>
    match ops[i]? with
    | some o => XF P G m ops o σ fun σ' => WY P G m ops A late f (L.setIfInBounds i true) σ' k
    | none => False
   | none => TW rs fun i =>
    match ops[i]? with
    | some o => stepJ P G m ops (late i) o σ fun σ' => WY P G m ops A late f (L.setIfInBounds i true) σ' k
    | none => False
section
variable {P : Program} {G : Cx} {m : Option Nat} {ops : List Oper} {late : Nat → Bool}
theorem X1 {acc : List Nat} {i : Nat} : ∀ (es : List Edge), (Xp acc es).testBit i = true → ∃ e ∈ es, Region.binds .any e = true ∧ (e.on = i ∨ (acc.getD e.on 0).testBit i = true)
 | [], h => by simp [Xp] at h
 | e :: es, h => by
  unfold Xp at h
  cases hb : Region.binds .any e with
  | false =>
   rw [hb] at h
   obtain ⟨e', h1, h2⟩ := X1 es h
   grind
  | true =>
   rw [hb] at h
   simp only [cond_true, Nat.testBit_or, Bool.or_eq_true] at h
   rcases h with (h | h) | h
   ·refine ⟨e, List.mem_cons_self, hb, .inl ?_⟩
    rw [Nat.one_shiftLeft, Nat.testBit_two_pow] at h
    simp_all
   ·simp_all
   ·obtain ⟨e', h1, h2⟩ := X1 es h
    grind
theorem sR : ∀ (os : List Oper) (acc : List Nat), (∀ j, os[j]? = ops[acc.length + j]?) → (∀ j i, (acc.getD j 0).testBit i = true → Nc ops i j) →
  ∀ j i, ((qC os acc).getD j 0).testBit i = true → Nc ops i j
 | [], _, _, h, j, i, hi => h j i hi
 | o :: os, acc, ho, h, j, i, hi => by
  refine sR os (acc ++ [Xp acc o.after.toList]) (fun j => ?_) (fun j i hi => ?_) j i hi
  ·have := ho (j + 1)
   grind
  ·by_cases hj : j < acc.length
   ·grind
   ·by_cases hj' : j = acc.length
    ·subst hj'
     rw [List.getD_eq_getElem?_getD, List.getElem?_append_right (Nat.le_refl _)] at hi
     simp only [Nat.sub_self, List.getElem?_cons_zero, Option.getD_some] at hi
     obtain ⟨e, h1, h2, h3⟩ := X1 _ hi
     have ho' : ops[acc.length]? = some o := by simpa using (ho 0).symm
     rcases h3 with h3 | h3
     ·exact .edge ho' (Array.mem_toList_iff.1 h1) h2 h3
     ·exact .step ho' (Array.mem_toList_iff.1 h1) h2 (h _ _ h3)
    grind
theorem PF {L : Array Bool} (hL : Closed ops L) {i j : Nat} (h : Nc ops i j) {o : Oper} (ho : ops[j]? = some o)
  (hj : ∀ e ∈ o.after, Region.binds .any e = true → L.getD e.on false = true) : L.getD i false = true := by
 induction h generalizing o with
 | edge ho' he hb hi =>
  grind
 | step ho' he hb hi ih =>
  rw [ho'] at ho
  cases ho
  have h1 := hj _ he hb
  rename_i e
  cases ho2 : ops[e.on]? with
  | none => cases hi with
   | edge h => rw [ho2] at h; cases h
   | step h => rw [ho2] at h; cases h
  | some o2 => exact ih ho2 (hL _ _ ho2 h1)
theorem Closed.set {L : Array Bool} (hL : Closed ops L) {j : Nat} (hj : j ∈ Region.ready .any ops.toArray L) : Closed ops (L.setIfInBounds j true) := by
 obtain ⟨hun, oj, hoj, hall⟩ := mem_ready.1 hj
 rw [List.getElem?_toArray] at hoj
 have keep : ∀ n, L.getD n false = true → (L.setIfInBounds j true).getD n false = true := fun n h => by
  by_cases e : j = n
  ·grind
  simp_all
 intro n o ho hn e he hb
 by_cases ejn : j = n
 ·simp_all
 ·refine keep _ (hL n o ho ?_ e he hb)
  simp_all
theorem first {i : Nat} {oi : Oper} {x : AV} {k : zh → Prop} (hi : ops[i]? = some oi) : ∀ (f : Nat) (L : Array Bool) (σ : zh), Closed ops L →
  (∀ j oj, ops[j]? = some oj → j ≠ i → L.getD j true = false → ¬ Nc ops i j → late j = false ∧ oi.apart ops.toArray oj = true) → i ∈ Region.ready .any ops.toArray L →
  XC G m ops σ oi = true → K0 P G ops σ oi x → Wl P G m ops late f (L.setIfInBounds i true) (σ.put oi.dst x) k → Wl P G m ops late (f + 1) L σ k := by
 intro f
 have self : ∀ (f : Nat) (L : Array Bool) (σ : zh), K0 P G ops σ oi x → Wl P G m ops late f (L.setIfInBounds i true) (σ.put oi.dst x) k →
   stepJ P G m ops (late i) oi σ fun σ' => Wl P G m ops late f (L.setIfInBounds i true) σ' k := fun f L σ hr H => by
  cases late i with
  | true => exact So (m := m) (qn hr H)
  | false => exact qn hr H
 induction f with
 | zero =>
  intro L σ hL hs hr he hres H
  refine ⟨fun h => (by rw [h] at hr; cases hr), fun j hj o ho => ?_⟩
  by_cases hji : j = i
  ·simp_all
  ·have := ready_mono hj hji
   rw [H.1] at this
   cases this
 | succ f ih =>
  intro L σ hL hs hr he hres H
  refine ⟨fun h => (by rw [h] at hr; cases hr), fun j hj o ho => ?_⟩
  by_cases hji : j = i
  ·simp_all
  ·have h1 := H.2 j (ready_mono hj hji) o ho
   obtain ⟨hjun, oj, hoj, hall⟩ := mem_ready.1 hj
   rw [List.getElem?_toArray, ho] at hoj
   cases hoj
   have hiun := (mem_ready.1 hr).1
   have hnot : ¬ Nc ops i j := fun hA => by
    have := PF hL hA ho hall
    grind
   obtain ⟨hlate, hap⟩ := hs j o ho hji hjun hnot
   obtain ⟨a1, a2, a3⟩ := Oper.apart_spec hap
   rw [hlate] at h1 ⊢
   have h2 := O6 a1 a2 h1
   refine VZ (fun σ' h => ?_) h2
   obtain ⟨hG, hA⟩ := h
   obtain ⟨r1, r2⟩ := Nk hG a3 he hres
   refine ih _ σ' (hL.set hj) (fun n on hn hni hnun hnA => ?_) (ready_mono hr (Ne.symm hji)) r2 r1 ?_
   ·refine hs n on hn hni ?_ hnA
    by_cases hjn : j = n
    all_goals simp_all
   ·rw [Array.setIfInBounds_comm _ _ hji]
    exact hA
theorem SX (rs : List Nat) (p : Nat → Prop) : TW rs p ↔ ∀ i ∈ rs, p i := by
 induction rs with
 | nil => simp [TW]
 | cons i rs ih =>
  cases rs with
  | nil => simp [TW]
  | cons j rs => rw [show TW (i :: j :: rs) p = (p i ∧ TW (j :: rs) p) from rfl, ih]; simp
theorem u4 (hO : ZY P G) {σ : zh} {f : FuncId} {xs : List AV} {k k' : zh → AV → Prop} (hk : ∀ σ x, k σ x → k' σ x) (h : vA G σ f xs k) : vA G σ f xs k' := by
 unfold vA at h ⊢
 split at h
 ·rename_i T hT
  exact (hO.own f T hT).mono _ _ _ _ _ (fun nb bl x h => hk _ _ h) h
 ·exact h
theorem qQ (hO : ZY P G) {σ : zh} {f : FuncId} {xs : List AV} {t : TypeId} {d : Option Tmp} {K K' : zh → Prop} (hk : ∀ σ, K σ → K' σ) (h : WN P G σ f xs t d K) : WN P G σ f xs t d K' := by
 unfold WN at h ⊢
 split at h
 ·rename_i h1
  rw [if_pos h1]
  split at h
  ·rename_i T hT
   exact (hO.own f T hT).mono _ _ _ _ _ (fun nb bl x h => hk _ h) h
  ·split at h
   ·rename_i h2
    rw [if_pos h2]
    exact Yo (fun r hr => hk _ hr) h
   ·rename_i h2
    rw [if_neg h2]
    split at h
    ·split at h
     ·exact h.elim
     ·rename_i h3
      rw [if_neg h3]
      split at h
      ·exact zA (hk _) h
      ·exact Yo (fun r hr => hk _ hr) h
    ·exact h
 ·rename_i h1
  rw [if_neg h1]
  split at h
  ·exact zA (hk _) h
  split at h
  ·exact u4 hO (fun _ _ h => hk _ h) h
  ·exact Yo (fun r hr => hk _ hr) h
theorem nS (hO : ZY P G) {g : Bool} {σ : zh} {o : Oper} {K K' : zh → Prop} (hk : ∀ σ, K σ → K' σ) (h : Ry P G g σ o K) : Ry P G g σ o K' := by
 unfold Ry at h ⊢
 split at h
 ·split at h
  ·split at h
   ·rw [zY] at h ⊢
    exact ⟨fun hg => zA (u4 hO fun _ _ h => hk _ h) (h.1 hg), fun hg => hk _ (h.2 hg)⟩
   ·exact Vp hk h
  ·split at h
   ·rename_i T hT
    rw [zY] at h ⊢
    exact ⟨fun hg => zA (hO.mono _ T hT _ _ _ _ _ fun nb bl x h => hk _ h) (h.1 hg), fun hg => hk _ (h.2 hg)⟩
   omega
  ·exact Vp hk h
 ·exact Vp hk h
theorem MW (hO : ZY P G) {σ : zh} {o : Oper} {K K' : zh → Prop} (hk : ∀ σ, K σ → K' σ) (h : JM P G σ o K) : JM P G σ o K' := by
 unfold JM at h ⊢
 split at h
 ·grind
 ·split at h
  ·exact zA (hk _) h
  ·exact h
 ·split at h
  ·split at h
   ·exact zA (hk _) h
   ·exact h
  omega
 ·split at h
  ·exact zA (hk _) h
  split at h
  ·split at h
   ·exact zA (hk _) h
   ·exact h
  ·exact h
 ·split at h
  ·exact zA (hk _) h
  ·exact h
 ·split at h
  ·exact zA (qQ hO hk) h
  ·split at h
   ·rename_i T hT
    exact zA (hO.mono _ T hT _ _ _ _ _ fun nb bl x h => hk _ h) h
   ·exact h
  ·exact h
 ·split at h
  ·split at h
   ·rename_i htt
    rw [if_pos htt]
    split at h
    ·exact zA (hk _) h
    ·exact h
   ·rename_i htt
    rw [if_neg htt]
    split at h
    ·exact zA (hk _) h
    omega
  ·exact h
 ·split at h
  ·exact zA (hk _) h
  ·exact h
theorem SZ (hO : ZY P G) {σ : zh} {o : Oper} {K K' : zh → Prop} (hk : ∀ σ, K σ → K' σ) (h : T5 P G ops o σ K) : T5 P G ops o σ K' := by
 unfold T5 at h ⊢
 split at h
 ·exact MW hO hk h
 ·split at h
  ·rename_i g _
   cases hc : G.conc && !g with
   | true => simp_all
   | false => rw [hc] at h; exact nS hO hk h
  ·exact h
theorem TS (hO : ZY P G) {l : Bool} {σ : zh} {o : Oper} {K K' : zh → Prop} (hk : ∀ σ, K σ → K' σ) (h : stepJ P G m ops l o σ K) : stepJ P G m ops l o σ K' := by
 cases l with
 | true => exact SZ hO hk h
 | false => exact VZ hk h
theorem lY {l : Bool} {σ : zh} {o : Oper} {K : zh → Prop} (h : stepJ P G m ops l o σ K) : T5 P G ops o σ K := by
 cases l with
 | true => exact h
 | false => exact So h
theorem mB {A : List Nat} {L : Array Bool} {i : Nat} {oi : Oper} (hA : ∀ j i, (A.getD j 0).testBit i = true → Nc ops i j) (h : Ev ops A late L i oi = true) :
  ∀ j oj, ops[j]? = some oj → j ≠ i → L.getD j true = false → ¬ Nc ops i j → late j = false ∧ oi.apart ops.toArray oj = true := fun j oj hj hji hun hno => by
 have hlt : j < ops.length := (List.getElem?_eq_some_iff.1 hj).1
 have := List.all_eq_true.1 h j (List.mem_range.2 hlt)
 grind
theorem V3 (hO : ZY P G) {A : List Nat} (hA : ∀ j i, (A.getD j 0).testBit i = true → Nc ops i j) {k : zh → Prop} : ∀ (f : Nat) (L : Array Bool) (σ : zh), Closed ops L →
  WY P G m ops A late f L σ k → Wl P G m ops late f L σ k
 | 0, L, σ, _, h => by
  unfold WY at h
  split at h
  ·rename_i hr; exact ⟨hr, h⟩
  simp_all
 | f + 1, L, σ, hL, h => by
  unfold WY at h
  split at h
  ·rename_i hr
   exact ⟨fun _ => h, fun j hj => by rw [hr] at hj; cases hj⟩
  ·rename_i hne
   split at h
   ·rename_i i hf
    have hmem := List.mem_of_find?_eq_some hf
    have he := List.find?_some hf
    split at h
    ·rename_i o ho
     unfold N2 at he
     rw [ho] at he
     simp only [Bool.and_eq_true] at he
     obtain ⟨x, h1, h2⟩ := pm he.1 h
     exact first ho f L σ hL (mB hA he.2) hmem he.1 h1 (V3 hO hA f _ _ (hL.set hmem) h2)
    simp_all
   ·refine ⟨fun hr => (hne hr).elim, fun j hj o ho => ?_⟩
    have := (SX _ _).1 h j hj
    rw [ho] at this
    exact TS hO (fun σ' h' => V3 hO hA f _ _ (hL.set hj) h') this
section
variable {E : Env} {r : Option Nat} {n : Nat}
theorem VU (hO : ZY P E.G) (hY : YN P E) {Q : Exit → Act → World → Prop} {k : zh → Prop} (hK : ∀ σ' a' w', k σ' → St E σ' a' w' → Q .normal a' w') : ∀ (f : Nat) (L : Array Bool) {σ : zh} {a : Act} {w : World},
  Wl P E.G m ops late f L σ k → St E σ a w → wpAnyIn (FW r) n P .any ops.toArray Q f L a w
 | 0, _, _, _, _, h, hst => ⟨h.1, hK _ _ _ h.2 hst⟩
 | f + 1, L, σ, a, w, h, hst => by
  refine ⟨fun hr => hK _ _ _ (h.1 hr) hst, fun j hj => ?_⟩
  obtain ⟨_, o, ho, _⟩ := mem_ready.1 hj
  have ho' := ho
  rw [List.getElem?_toArray] at ho'
  have hv := lY (h.2 j hj o ho')
  have key : ∀ σ' a' w', Wl P E.G m ops late f (L.setIfInBounds j true) σ' k → St E σ' a' w' → wpAnyIn (FW r) n P .any ops.toArray Q f (L.setIfInBounds j true) a' w' :=
   fun σ' a' w' hv' hst' => VU hO hY hK f _ hv' hst'
  unfold wpOpIn
  rw [ho]
  simp only [T5] at hv ⊢
  cases hg : o.guard with
  | none =>
   rw [hg] at hv
   simp only [Region.wanted, hg, if_true]
   exact Su hO hY hv hst key
  | some jw =>
   obtain ⟨j', want⟩ := jw
   rw [hg] at hv
   simp only at hv
   split at hv
   ·rename_i g hga
    have hw : Region.wanted o (yielded ops.toArray a.tmps) = g := by
     obtain ⟨S, ρ, _, hF, _⟩ := hst
     simp only [Region.wanted, hg]
     exact ua hga hF
    obtain ⟨h1, h2⟩ := TY (r := r) (n := n) (Q := Q) hO hY hv hst key
    rw [hw]
    cases g with
    | true => simp_all
    | false => rw [if_neg (by simp)]; exact ⟨fun _ _ => trivial, h2 rfl⟩
   ·exact hv.elim
theorem St.drew {σ : zh} {a : Act} {w : World} (h : St E σ a w) : St E σ a { w with drawn := w.drawn + 1 } := by
 obtain ⟨S, ρ, hM, hF, hD⟩ := h
 have hS : ∀ b, S b → S b ∧ ({ w with drawn := w.drawn + 1 } : World).heap[b]? = w.heap[b]? := fun b hb => ⟨hb, rfl⟩
 exact ⟨S, ρ, ⟨⟨hM.fr.os, hM.fr.tape, hM.fr.output, hM.fr.size, hM.fr.block, Nat.le_trans hM.fr.drawn (Sz w 1)⟩, hM.sb, hM.sup, hM.sub, hM.glob, hM.hi,
  fun k hk => (hM.ok k hk).mono hS (zG.refl _) fun _ _ => rfl, hM.own, hM.dis, hM.b0, hM.nbz, hM.ole⟩, hF.mono hS (zG.refl _), hD.mono hS⟩
def U2 (j : Nat) : List Oper → List Nat → Bool
 | o :: os, a :: as => (a.testBit j || (match o.op with | .move _ => true | _ => false)) && U2 j os as
 | _, _ => true
def qk (m : Nat) : Nat → List Oper → Bool
 | 0, _ => true
 | _, [] => true
 | j + 1, o :: os => (m.testBit 0 || (match o.op with | .move _ => true | _ => false)) && qk (m / 2) j os
def pC (G : Cx) (ops : List Oper) (A : List Nat) (j : Nat) : Bool :=
 match ops[j]? with
 | some o =>
  match o.op with
  | .store _ _ _ => true
  | .call { callee := .value (.func f), .. } => (G.own f).isSome || (Nat.beq ((A.getD j 0) &&& (2 ^ j - 1)) (2 ^ j - 1) && U2 j (ops.drop (j + 1)) (A.drop (j + 1)))
  | .call { callee := .builtin .append, .. } => qk (A.getD j 0) j ops
  | _ => Nat.beq ((A.getD j 0) &&& (2 ^ j - 1)) (2 ^ j - 1) && U2 j (ops.drop (j + 1)) (A.drop (j + 1))
 | none => false
def ga (o : Oper) : Bool :=
 match o.op with
 | .call { callee := .builtin .append, .. } => true
 | _ => false
def Rz {α : Sort u} : Nat → (Nat → α) → α
 | 0, k => k 0
 | n + 1, k => Rz n fun m => k (Nat.succ m)
theorem vq {α : Sort u} : ∀ (n : Nat) (k : Nat → α), Rz n k = k n
 | 0, _ => rfl
 | n + 1, k => vq n _
def Ff (σ : zh) : Nat := σ.nb
def V6 (P : Program) (G : Cx) (ops : List Oper) (σ : zh) (k : zh → Prop) : Prop :=
 match ops.any ga with
 | true => Rz (Ff σ) fun m => WY P G (some m) ops (qC ops []) (pC G ops (qC ops [])) ops.length (Array.replicate ops.length false) σ k
 | false => WY P G none ops (qC ops []) (pC G ops (qC ops [])) ops.length (Array.replicate ops.length false) σ k
theorem pO (hO : ZY P E.G) (hY : YN P E) {id : Nat} {ops : Array Oper} {σ : zh} {a : Act} {w : World} {k : zh → Prop} {Q : Exit → Act → World → Prop} (hm : P.follows .mixedOrders = true) (hv : V6 P E.G ops.toList σ k) (hst : St E σ a w)
  (hK : ∀ σ' a' w', k σ' → St E σ' a' w' → Q .normal a' w') : (Code.region id ops true).wpIn (FW r) n P Q a w := by
 refine wpIn_region_any hm ?_
 obtain ⟨m, hv⟩ : ∃ m, WY P E.G m ops.toList (qC ops.toList []) (pC E.G ops.toList (qC ops.toList [])) ops.toList.length (Array.replicate ops.toList.length false) σ k := by
  unfold V6 at hv
  split at hv
  ·rw [vq] at hv; exact ⟨_, hv⟩
  grind
 have h1 := V3 hO (sR ops.toList [] (by simp) fun j i h => by simp at h) _ _ _ (fun j o _ hL => by simp [Array.getD_eq_getD_getElem?, Array.getElem?_replicate] at hL; split at hL <;> simp at hL) hv
 have := VU hO hY (r := r) (n := n) (Q := Q) hK _ _ h1 hst.drew
 omega
end
end
end Go.Sx

namespace Go.Sx
universe u
open Go Go.RowKit
def FV : Value → Value → Prop
 | .int k a, .int k' b => k = k' ∧ a = b
 | .bool a, .bool b => a = b
 | x, y => x = y
theorem HM {x y : Value} (h : FV x y) : x = y := by
 unfold FV at h
 grind
def Vx (p : Nat → Prop) : Nat → Prop
 | 0 => True
 | 1 => p 0
 | n + 1 => Vx p n ∧ p n
theorem wQ {p : Nat → Prop} {n : Nat} (h : Vx p n) : ∀ i, i < n → p i := by
 induction n with
 | zero => omega
 | succ n ih =>
  intro i hi
  cases n with
  | zero =>
   have : i = 0 := by omega
   rw [this]; exact h
  | succ n =>
   by_cases e : i = n + 1
   ·rw [e]; exact h.2
   ·exact ih h.1 i (by omega)
def zi : AV → AV → Prop
 | .v a, y =>
  match y with
  | .junk => True
  | .v b => FV a b
  | .xl _ _ len _ => a = .slice none 0 0 ∧ len = 0
  | _ => False
 | .str a, y =>
  match y with
  | .junk => True
  | .str b => a = b
  | _ => False
 | .xl f sz len els, y =>
  match y with
  | .junk => True
  | .xl f' sz' len' els' => (f' = true → f = true) ∧ sz' = sz ∧ len' = len ∧ ∀ i j, i < len → j < sz → zi (els i j) (els' i j)
  | _ => False
 | .xq n cells off, y =>
  match y with
  | .junk => True
  | .xq n' cells' off' => n' = n ∧ off' = off ∧ Vx (fun i => zi (cells i) (cells' i)) n
  | _ => False
 | .np k o, y =>
  match y with
  | .junk => True
  | .np k' o' => k' = k ∧ o' = o
  | _ => False
 | .ns k o l, y =>
  match y with
  | .junk => True
  | .ns k' o' l' => k' = k ∧ o' = o ∧ l' = l
  | _ => False
 | .ap k i j, y =>
  match y with
  | .junk => True
  | .ap k' i' j' => k' = k ∧ i' = i ∧ j' = j
  | _ => False
 | .agg n cs, y =>
  match y with
  | .junk => True
  | .agg n' cs' => n' = n ∧ Vx (fun i => zi (cs i) (cs' i)) n
  | _ => False
 | .tup n cs, y =>
  match y with
  | .junk => True
  | .tup n' cs' => n' = n ∧ Vx (fun i => zi (cs i) (cs' i)) n
  | _ => False
 | .fn f nf a nc b, y =>
  match y with
  | .junk => True
  | .fn f' nf' a' nc' b' => f' = f ∧ nf' = nf ∧ nc' = nc ∧ Vx (fun i => zi (a i) (a' i)) nf ∧ Vx (fun i => zi (b i) (b' i)) nc
  | _ => False
 | .gd g x, y =>
  match y with
  | .junk => True
  | .gd g' x' => g' = g ∧ zi x x'
  | y => g = true ∧ zi x y
 | .yl k, y =>
  match y with
  | .junk => True
  | .yl k' => k' = k
  | _ => False
 | .nb p z, y =>
  match y with
  | .junk => True
  | .nb p' z' => p' = p ∧ (z = true → z' = true)
  | _ => False
 | .er z, y =>
  match y with
  | .junk => True
  | .er z' => z' = z
  | _ => False
 | .ps k l, y =>
  match y with
  | .junk => True
  | .ps k' l' => k' = k ∧ l' = l
  | _ => False
 | .junk, y =>
  match y with
  | .junk => True
  | _ => False
section
variable {w : World} {S : Nat → Prop}
theorem wY {x y : AV} {v : Value} {ρ : Nat → Own} (hx : zE w S ρ x v) (h : zi x y) : zE w S ρ y v := by
 induction hx generalizing y with
 | v x =>
  unfold zi at h
  split at h
  ·exact .junk _
  ·rw [← HM h]; exact .v _
  ·obtain ⟨rfl, rfl⟩ := h
   exact .xl none 0 (fun _ _ => undef) (Nat.le_refl _) (Nat.zero_le _) (fun _ => rfl) (fun i j hi _ => absurd hi (Nat.not_lt_zero _)) fun i j hi _ => absurd hi (Nat.not_lt_zero _)
  simp_all
 | str l =>
  unfold zi at h
  split at h
  ·exact .junk _
  ·rw [← h]; exact .str _
  simp_all
 | xl o cap cvs hle hm hf hc hr ih =>
  unfold zi at h
  split at h
  ·exact .junk _
  ·obtain ⟨h1, rfl, rfl, h4⟩ := h
   exact .xl o cap cvs hle hm (fun e => hf (h1 e)) hc fun i j hi hj => ih i j hi hj (h4 i j hi hj)
  simp_all
 | xq A cvs hc hr ih =>
  unfold zi at h
  split at h
  ·exact .junk _
  ·obtain ⟨rfl, rfl, h4⟩ := h
   exact .xq A cvs hc fun i hi => ih i hi (wQ h4 i hi)
  simp_all
 | np g h0 =>
  unfold zi at h
  split at h
  ·exact .junk _
  ·obtain ⟨rfl, rfl⟩ := h; exact .np g h0
  simp_all
 | ns g base cap sz L h0 hl hc =>
  unfold zi at h
  split at h
  ·exact .junk _
  ·obtain ⟨rfl, rfl, rfl⟩ := h; exact .ns g base cap sz L h0 hl hc
  simp_all
 | ns0 g base cap sz L A h0 hl hc hz =>
  unfold zi at h
  split at h
  ·exact .junk _
  ·obtain ⟨rfl, rfl, rfl⟩ := h; exact .ns0 g base cap sz L A h0 hl hc hz
  simp_all
 | nsn sz o h0 =>
  unfold zi at h
  split at h
  ·exact .junk _
  ·obtain ⟨rfl, rfl, rfl⟩ := h; exact .nsn sz o h0
  simp_all
 | ap g base cap sz L h0 hi hc =>
  unfold zi at h
  split at h
  ·exact .junk _
  ·obtain ⟨rfl, rfl, rfl⟩ := h; exact .ap g base cap sz L h0 hi hc
  simp_all
 | yl g r h0 =>
  unfold zi at h
  split at h
  ·exact .junk _
  ·rw [h]; exact .yl g r h0
  simp_all
 | dyl h0 hx =>
  unfold zi at h
  split at h
  ·exact .junk _
  ·rw [h]; exact .dyl h0 hx
  simp_all
 | dnp h0 hx =>
  unfold zi at h
  split at h
  ·exact .junk _
  ·obtain ⟨rfl, rfl⟩ := h; exact .dnp h0 hx
  simp_all
 | dns h0 hx =>
  unfold zi at h
  split at h
  ·exact .junk _
  ·obtain ⟨rfl, rfl, rfl⟩ := h; exact .dns h0 hx
  simp_all
 | dap h0 hx =>
  unfold zi at h
  split at h
  ·exact .junk _
  ·obtain ⟨rfl, rfl, rfl⟩ := h; exact .dap h0 hx
  simp_all
 | agg vs hn hr ih =>
  unfold zi at h
  split at h
  ·exact .junk _
  ·obtain ⟨rfl, h2⟩ := h; exact .agg vs hn fun i hi => ih i hi (wQ h2 i hi)
  simp_all
 | tup vs hn hr ih =>
  unfold zi at h
  split at h
  ·exact .junk _
  ·obtain ⟨rfl, h2⟩ := h; exact .tup vs hn fun i hi => ih i hi (wQ h2 i hi)
  simp_all
 | fn vs us hn hm hr hs ih1 ih2 =>
  unfold zi at h
  split at h
  ·exact .junk _
  ·obtain ⟨rfl, rfl, rfl, h4, h5⟩ := h
   exact .fn vs us hn hm (fun i hi => ih1 i hi (wQ h4 i hi)) fun i hi => ih2 i hi (wQ h5 i hi)
  simp_all
 | gd v h1 h2 ih =>
  unfold zi at h
  split at h
  ·exact .junk _
  ·obtain ⟨rfl, h4⟩ := h; exact .gd v (fun hg => ih hg h4) h2
  simp_all
 | nb t h0 =>
  unfold zi at h
  split at h
  ·exact .junk _
  ·obtain ⟨rfl, h2⟩ := h; exact .nb t fun e => h2 (h0 e)
  simp_all
 | er x h1 h2 =>
  unfold zi at h
  split at h
  ·exact .junk _
  ·rw [h]; exact .er x h1 h2
  simp_all
 | ps g cap h0 hc =>
  unfold zi at h
  split at h
  ·exact .junk _
  ·obtain ⟨rfl, rfl⟩ := h; exact .ps g cap h0 hc
  simp_all
 | dps h0 hx =>
  unfold zi at h
  split at h
  ·exact .junk _
  ·obtain ⟨rfl, rfl⟩ := h; exact .dps h0 hx
  simp_all
 | junk x =>
  unfold zi at h
  split at h
  ·exact .junk _
  simp_all
theorem zV : ∀ x : AV, zi x x
 | .v a => by
  show FV a a
  cases a with
  | int => exact ⟨rfl, rfl⟩
  | bool => rfl
  | _ => exact (rfl : _ = _)
 | .str a => rfl
 | .xl f sz len els => ⟨fun h => h, rfl, rfl, fun i j _ _ => zV _⟩
 | .xq n cells off => ⟨rfl, rfl, by
  have h : ∀ i, zi (cells i) (cells i) := fun i => zV _
  induction n with
  | zero => trivial
  | succ n ih => cases n with
   | zero => exact h 0
   | succ n => exact ⟨ih, h _⟩⟩
 | .np k o => ⟨rfl, rfl⟩
 | .ns k o l => ⟨rfl, rfl, rfl⟩
 | .ap k i j => ⟨rfl, rfl, rfl⟩
 | .agg n cs => ⟨rfl, by
  have h : ∀ i, zi (cs i) (cs i) := fun i => zV _
  induction n with
  | zero => trivial
  | succ n ih => cases n with
   | zero => exact h 0
   | succ n => exact ⟨ih, h _⟩⟩
 | .tup n cs => ⟨rfl, by
  have h : ∀ i, zi (cs i) (cs i) := fun i => zV _
  induction n with
  | zero => trivial
  | succ n ih => cases n with
   | zero => exact h 0
   | succ n => exact ⟨ih, h _⟩⟩
 | .fn f nf a nc b => ⟨rfl, rfl, rfl, by
  have h : ∀ i, zi (a i) (a i) := fun i => zV _
  induction nf with
  | zero => trivial
  | succ n ih => cases n with
   | zero => exact h 0
   | succ n => exact ⟨ih, h _⟩, by
  have h : ∀ i, zi (b i) (b i) := fun i => zV _
  induction nc with
  | zero => trivial
  | succ n ih => cases n with
   | zero => exact h 0
   | succ n => exact ⟨ih, h _⟩⟩
 | .gd g x => ⟨rfl, zV x⟩
 | .yl k => (rfl : k = k)
 | .nb p z => ⟨rfl, fun h => h⟩
 | .er z => (rfl : z = z)
 | .ps k l => ⟨rfl, rfl⟩
 | .junk => trivial
theorem Zj {x y : AV} (h : x = y) : zi x y := h ▸ zV x
end
def R3 : List (Option Nat) → Nat → Nat → Option Nat
 | [], _, _ => none
 | o :: os, i, k =>
  match o with
  | some k' => bif Nat.beq k' k then some i else R3 os (i + 1) k
  | none => R3 os (i + 1) k
def ren (inv : Nat → Option Nat) : AV → AV
 | .np k o =>
  match inv k with
  | some i => .np i o
  | none => .junk
 | .ns k o l =>
  match inv k with
  | some i => .ns i o l
  | none => .junk
 | .ap k i j =>
  match inv k with
  | some k' => .ap k' i j
  | none => .junk
 | .agg n cs => .agg n fun i => ren inv (cs i)
 | .tup n cs => .tup n fun i => ren inv (cs i)
 | .fn f nf a nc b => .fn f nf (fun i => ren inv (a i)) nc fun i => ren inv (b i)
 | .gd g x => .gd g (ren inv x)
 | .yl k =>
  match inv k with
  | some i => .yl i
  | none => .junk
 | .ps k l =>
  match inv k with
  | some i => .ps i l
  | none => .junk
 | x => x
theorem KA {w : World} {S : Nat → Prop} {ρ ρ' : Nat → Own} {inv : Nat → Option Nat} {x : AV} {v : Value} (hi : ∀ k i, inv k = some i → ρ' i = ρ k ∨ ρ' i = .dead) (h : zE w S ρ x v) :
  zE w S ρ' (ren inv x) v := by
 induction h with
 | v x => exact .v x
 | str l => exact .str l
 | xl o cap cvs hle hm hf hc hr ih => exact .xl o cap cvs hle hm hf hc hr
 | xq A cvs hc hr ih => exact .xq A cvs hc hr
 | np g h =>
  simp only [ren]
  split
  ·rename_i i e
   rcases hi _ _ e with e' | e'
   ·exact .np g (e'.trans h)
   ·exact .dnp e' ⟨_, rfl⟩
  ·exact .junk _
 | ns g base cap sz L h hl hc =>
  simp only [ren]
  split
  ·rename_i i e
   rcases hi _ _ e with e' | e'
   ·exact .ns g base cap sz L (e'.trans h) hl hc
   ·exact .dns e' ⟨_, _, rfl⟩
  ·exact .junk _
 | ns0 g base cap sz L A h hl hc h0 =>
  simp only [ren]
  split
  ·rename_i i e
   rcases hi _ _ e with e' | e'
   ·exact .ns0 g base cap sz L A (e'.trans h) hl hc h0
   ·exact .dns e' ⟨_, _, rfl⟩
  ·exact .junk _
 | nsn sz o h =>
  simp only [ren]
  split
  ·rename_i i e
   rcases hi _ _ e with e' | e'
   ·exact .nsn sz o (e'.trans h)
   ·exact .dns e' ⟨_, _, rfl⟩
  ·exact .junk _
 | ap g base cap sz L h hl hc =>
  simp only [ren]
  split
  ·rename_i i e
   rcases hi _ _ e with e' | e'
   ·exact .ap g base cap sz L (e'.trans h) hl hc
   ·exact .dap e' ⟨_, rfl⟩
  ·exact .junk _
 | yl g r h =>
  simp only [ren]
  split
  ·rename_i i e
   rcases hi _ _ e with e' | e'
   ·exact .yl g r (e'.trans h)
   ·exact .dyl e' ⟨_, rfl⟩
  ·exact .junk _
 | dyl h hx =>
  simp only [ren]
  split
  ·rename_i i e
   rcases hi _ _ e with e' | e'
   ·exact .dyl (e'.trans h) hx
   ·exact .dyl e' hx
  ·exact .junk _
 | dnp h hx =>
  simp only [ren]
  split
  ·rename_i i e
   rcases hi _ _ e with e' | e'
   ·exact .dnp (e'.trans h) hx
   ·exact .dnp e' hx
  ·exact .junk _
 | dns h hx =>
  simp only [ren]
  split
  ·rename_i i e
   rcases hi _ _ e with e' | e'
   ·exact .dns (e'.trans h) hx
   ·exact .dns e' hx
  ·exact .junk _
 | dap h hx =>
  simp only [ren]
  split
  ·rename_i i e
   rcases hi _ _ e with e' | e'
   ·exact .dap (e'.trans h) hx
   ·exact .dap e' hx
  ·exact .junk _
 | agg vs hn hr ih => exact .agg vs hn fun i h => ih i h hi
 | tup vs hn hr ih => exact .tup vs hn fun i h => ih i h hi
 | fn vs us hn hm hr hs ih1 ih2 => exact .fn vs us hn hm (fun i h => ih1 i h hi) fun i h => ih2 i h hi
 | gd v h h' ih => exact .gd v (fun h => ih h hi) h'
 | nb t h => exact .nb t h
 | er x h1 h2 => exact .er x h1 h2
 | ps g cap h hc =>
  simp only [ren]
  split
  ·rename_i i e
   rcases hi _ _ e with e' | e'
   ·exact .ps g cap (e'.trans h) hc
   ·exact .dps e' ⟨_, _, rfl⟩
  ·exact .junk _
 | dps h hx =>
  simp only [ren]
  split
  ·rename_i i e
   rcases hi _ _ e with e' | e'
   ·exact .dps (e'.trans h) hx
   ·exact .dps e' hx
  ·exact .junk _
 | junk x => exact .junk x
def FQ (ks : List (Option Nat)) (x y : AV) : Prop :=
 match x, y with
 | .v (.slice none 0 0), .ns i o l => ks[i]? = some none ∧ o = 0 ∧ l = 0
 | .xl f _ len _, .ns i o l => ks[i]? = some none ∧ o = 0 ∧ l = 0 ∧ f = true ∧ len = 0
 | x, y => zi (ren (R3 ks 0) x) y
def Ej (ks : List (Option Nat)) : OB → OB → Prop
 | _, .dead => True
 | .box t n cells, .box t' n' cells' => t' = t ∧ n' = n ∧ Vx (fun i => FQ ks (cells i) (cells' i)) n
 | .arr t sz len els, .arr t' sz' len' els' => t' = t ∧ sz' = sz ∧ len' = len ∧ ∀ i j, i < len → j < sz → zi (els i j) (els' i j)
 | .lrec st pend, .lrec st' pend' => st' = st ∧ pend' = pend
 | _, _ => False
def FP : OB → Prop
 | .dead => True
 | .arr _ _ len _ => len = 0
 | _ => False
def Sc : OB → Bool
 | .dead => true
 | _ => false
def distinct : List (Option Nat) → Bool
 | [] => true
 | some k :: ks => !ks.contains (some k) && distinct ks
 | none :: ks => distinct ks
def GU (nb : Nat) : List (Option Nat) → Bool
 | [] => true
 | some k :: ks => Nat.blt k nb && GU nb ks
 | none :: ks => GU nb ks
def lk (vars : List (Nat × AV)) (t : Nat) : AV :=
 match vars with
 | [] => .junk
 | (t', x) :: vs => bif Nat.beq t' t then x else lk vs t
def me (blks : List (Nat × OB)) (d : Nat → OB) (t : Nat) : OB :=
 match blks with
 | [] => d t
 | (t', x) :: vs => bif Nat.beq t' t then x else me vs d t
def rk (σ : zh) (i : Nat) : List (Nat × AV) → Option Nat
 | [] => some i
 | (t, x) :: vs =>
  match x.top with
  | some k => bif Nat.beq k i then (σ.ev (.tmp t)).strip.top else rk σ i vs
  | none => rk σ i vs
def Q4 (σ : zh) (i : Nat) : List (Nat × AV) → Option Nat
 | [] => none
 | (t, x) :: vs =>
  match x.top with
  | some k => bif Nat.beq k i then (σ.ev (.tmp t)).strip.top else Q4 σ i vs
  | none => Q4 σ i vs
def UH (σ : zh) (vars : List (Nat × AV)) (bl : Nat → OB) (i : Nat) : Nat → Option Nat
 | 0 => none
 | t + 1 =>
  match bl t, σ.bl ((rk σ t vars).getD t) with
  | .box _ n cs, .box _ _ cs' =>
   match (List.range n).findSome? (fun j => match (cs j).top with | some k => bif Nat.beq k i then (cs' j).strip.top else none | none => none) with
   | some k => some k
   | none => UH σ vars bl i t
  | _, _ => UH σ vars bl i t
def pL (σ : zh) : Option Nat → Option Nat
 | some k => bif Nat.blt k σ.nb && !Sc (σ.bl k) then some k else none
 | none => none
def oB (σ : zh) (vars : List (Nat × AV)) (bl : Nat → OB) (nb : Nat) : List (Option Nat) :=
 (List.range nb).map fun i => bif Sc (bl i) then none else
  match pL σ (Q4 σ i vars) with
  | some k => some k
  | none =>
   match pL σ (UH σ vars bl i nb) with
   | some k => some k
   | none => pL σ (rk σ i vars)
def gt {α : Type} (p : α → Prop) : List α → Prop
 | [] => True
 | [x] => p x
 | x :: xs => p x ∧ gt p xs
theorem Lh {α : Type} {p : α → Prop} {l : List α} (h : gt p l) : ∀ x ∈ l, p x := by
 induction l with
 | nil => simp
 | cons y ys ih =>
  cases ys with
  | nil => intro x hx; rw [List.mem_singleton.1 hx]; exact h
  | cons z zs =>
   intro x hx
   rcases List.mem_cons.1 hx with e | e
   ·rw [e]; exact h.1
   ·exact ih h.2 x e
def W6 (n nb : Nat) (vars : List (Nat × AV)) (bl : Nat → OB) : zh := { n := n, tm := lk vars, nb := nb, bl := bl }
def gA (nb0 : Nat) (ks : List (Option Nat)) (bl : Nat → OB) : Bool :=
 (List.range nb0).all fun i => Sc (bl i) || match ks[i]? with
  | some (some k) => Nat.beq k i
  | _ => false
def TL {α : Sort u} : List (Option Nat) → (List (Option Nat) → α) → α
 | [], k => k []
 | none :: l, k => TL l fun l' => k (none :: l')
 | some n :: l, k => Rz n fun m => TL l fun l' => k (some m :: l')
theorem uq {α : Sort u} : ∀ (l : List (Option Nat)) (k : List (Option Nat) → α), TL l k = k l
 | [], _ => rfl
 | none :: l, k => uq l _
 | some n :: l, k => by
  unfold TL
  rw [vq, uq]
def mC (ks : List (Option Nat)) (n nb0 : Nat) (σ : zh) (vars : List (Nat × AV)) (bl : Nat → OB) (nb : Nat) (more : Prop) : Prop :=
 match (Nat.beq σ.n n && (Nat.ble nb0 nb && gA nb0 ks bl)) && (distinct ks && GU σ.nb ks) with
 | true => (more ∧ gt (fun p : Nat × AV => FQ ks (σ.ev (.tmp p.1)) p.2) vars) ∧
   Vx (fun i => match ks[i]? with
    | some (some k) => Ej ks (σ.bl k) (bl i)
    | _ => FP (bl i)) nb
 | false => False
def v6 (n nb0 : Nat) (σ : zh) (vars : List (Nat × AV)) (bl : Nat → OB) (nb : Nat) (more : Prop) : Prop :=
 TL (oB σ vars bl nb) fun ks => mC ks n nb0 σ vars bl nb more
section
variable {E : Env} {w : World} {S : Nat → Prop} {ρ : Nat → Own}
theorem NZ {ks : List (Option Nat)} {i0 k i : Nat} (h : R3 ks i0 k = some i) : i0 ≤ i ∧ ks[i - i0]? = some (some k) := by
 induction ks generalizing i0 with
 | nil => cases h
 | cons o os ih =>
  simp only [R3] at h
  have step : R3 os (i0 + 1) k = some i → i0 ≤ i ∧ (o :: os)[i - i0]? = some (some k) := fun h => by
   grind
  split at h
  ·rename_i k'
   cases hb : Nat.beq k' k with
   | true =>
    simp_all
   | false => simp_all
  simp_all
theorem T3 {ks : List (Option Nat)} (h : distinct ks = true) : ∀ (i j k : Nat), ks[i]? = some (some k) → ks[j]? = some (some k) → i = j := by
 induction ks with
 | nil => simp
 | cons o os ih =>
  intro i j k hi hj
  have hos : distinct os = true := by cases o with
   | none => exact h
   | some k => simp only [distinct, Bool.and_eq_true] at h; exact h.2
  have hne : o = some k → ∀ m, os[m]? ≠ some (some k) := fun e m hm => by
   subst e
   simp only [distinct, Bool.and_eq_true, Bool.not_eq_true', List.contains_eq_mem, decide_eq_false_iff_not] at h
   exact h.1 (List.mem_of_getElem? hm)
  grind
theorem Ue {ks : List (Option Nat)} {nb : Nat} (h : GU nb ks = true) : ∀ k, some k ∈ ks → k < nb := by
 induction ks with
 | nil => simp
 | cons o os ih =>
  intro k hk
  cases o with
  | none =>
   rcases List.mem_cons.1 hk with e | e
   ·cases e
   ·exact ih h k e
  | some k' =>
   simp only [GU, Bool.and_eq_true] at h
   rcases List.mem_cons.1 hk with e | e
   all_goals simp_all
def Yr (ks : List (Option Nat)) (bl : Nat → OB) (ρ : Nat → Own) (nb i : Nat) : Own :=
 if i < nb then
  match bl i, ks[i]? with
  | .dead, _ => .dead
  | _, some (some k) => ρ k
  | .arr _ sz _ _, _ => .nila sz
  | _, _ => .dead
 else .none
theorem S8 (σ : zh) (vars : List (Nat × AV)) (bl : Nat → OB) (nb : Nat) : (oB σ vars bl nb).length = nb := by simp [oB]
theorem P3 {ρ' : Nat → Own} {ks : List (Option Nat)} {x y : AV} {v : Value} (hi : ∀ k i, R3 ks 0 k = some i → ρ' i = ρ k ∨ ρ' i = .dead)
  (hn : ∀ i, ks[i]? = some none → ∃ sz, ρ' i = .nila sz ∨ ρ' i = .dead) (hx : zE w S ρ x v) (h : FQ ks x y) : zE w S ρ' y v := by
 unfold FQ at h
 split at h
 ·rename_i i o l
  obtain ⟨h1, rfl, rfl⟩ := h
  cases hx
  obtain ⟨sz, e | e⟩ := hn i h1
  ·exact .nsn sz none e
  ·exact .dns e ⟨_, _, rfl⟩
 ·rename_i f sz' len els i o l
  obtain ⟨h1, rfl, rfl, rfl, rfl⟩ := h
  cases hx with
  | xl o cap cvs hle hm hf hc hr =>
   obtain rfl : cap = 0 := hf rfl
   obtain ⟨sz, e | e⟩ := hn i h1
   ·exact .nsn sz o e
   ·exact .dns e ⟨_, _, rfl⟩
 ·exact wY (KA hi hx) h
end
end Go.Sx
