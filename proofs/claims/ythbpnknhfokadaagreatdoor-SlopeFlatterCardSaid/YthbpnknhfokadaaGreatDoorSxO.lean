/- Regions in any order: what only computes or reads comes first, the rest in each order that there is. -/
import Derived.Test.YthbpnknhfokadaaGreatDoorSxM
set_option linter.unusedSimpArgs false
set_option linter.unusedVariables false
namespace Go.Sx
open Go Go.RowKit
section
variable {P : Program} {G : Cx} {m : Option Nat} {ops : List Oper}
theorem Ue {ex : TypeId → (AV → Prop) → Prop} (hex : ∀ t k, ex t k → ∃ r, (∀ k' : AV → Prop, k' r → ex t k') ∧ k r) :
  ∀ (ts : List TypeId) (k : List AV → Prop), WW ex ts k → ∃ r, (∀ k' : List AV → Prop, k' r → WW ex ts k') ∧ k r
 | [], _, h => ⟨[], fun _ h' => h', h⟩
 | t :: ts, k, h => by
  obtain ⟨v, h1, h2⟩ := hex t _ h
  obtain ⟨vs, h3, h4⟩ := Ue hex ts _ h2
  exact ⟨v :: vs, fun k' hk => h1 _ (h3 _ hk), h4⟩
theorem rH : ∀ (n : Nat) (t : TypeId) (k : AV → Prop), ut P n t k → ∃ r, (∀ k' : AV → Prop, k' r → ut P n t k') ∧ k r
 | 0, _, _, ⟨r, hr⟩ => ⟨r, fun _ h => ⟨r, h⟩, hr⟩
 | n + 1, t, k, h => by
  unfold ut at h ⊢
  split at h
  ·grind
  ·grind
  ·grind
  ·grind
  ·obtain ⟨vs, h1, h2⟩ := Ue (rH n) _ _ h
   grind
  grind
theorem sN {σ : zJ} {f : FuncId} {xs : List AV} (h : G.fre f xs = none) : YA G σ f xs = none := by unfold YA; rw [h]
theorem Om {g : Option Bool} {f : FuncId} {xs : List AV} {t : TypeId} {K : AV → Prop} (h : xe P G g f xs t K) : ∃ r, (∀ k' : AV → Prop, k' r → xe P G g f xs t k') ∧ K r := by
 unfold xe at h ⊢
 split at h
 ·rename_i ps r _
  refine ⟨r, fun k' hk' => tI (fun _ => hk') h, ?_⟩
  cases g with
  | none => exact ((Zm _ _).1 h).2
  | some g => exact ((ym _ _ _).1 h).2
 ·obtain ⟨r, h3, h4, h5⟩ := rH 3 _ _ h
  grind
theorem TL {g : Option Bool} {f : FuncId} {xs : List AV} {t : TypeId} {K : AV → Prop} (h : wj P G g f xs t K) : ∃ r, (∀ k' : AV → Prop, k' r → wj P G g f xs t k') ∧ K r := by
 unfold wj at h ⊢
 split at h
 ·split at h
  ·grind
  ·exact h.elim
 ·exact Om h
def lB (P : Program) (G : Cx) (g : Bool) (q : Option Bool) (σ : zJ) (o : Oper) (x : AV) : Prop :=
 (∃ ps, yd P G.objs σ.bl σ.ev o.op = some (ps, x) ∧ (g = true → ∀ p ∈ ps, p.holds)) ∨
 (∃ t len parts, o.op = .buildSlice t len parts ∧ ¬ (((parts.toList.map fun p => σ.sv p.2).any AV.hasOwn || Vt (parts.toList.map (·.2))) = true) ∧
  ZK P σ t len (parts.toList.map (·.1)) (parts.toList.map fun p => σ.sv p.2) = some (σ, x) ∧ (g = true → ∀ p ∈ Zb σ (parts.toList.map (·.2)), p.holds)) ∨
 (∃ f args ts fid nf first nc cap, o.op = .call { callee := .value f, args, argTypes := ts } ∧ σ.sv f = .fn (.func fid) nf first nc cap ∧
  (g = true → ∀ p ∈ (σ.ev f).gprop ++ Zb σ args.toList, p.holds) ∧ ¬ ((yA nf first (args.toList.map σ.sv) nc cap).any AV.hasOwn = true) ∧
  G.fre fid (yA nf first (args.toList.map σ.sv) nc cap) = none ∧ ∀ k' : AV → Prop, k' x → wj P G q fid (yA nf first (args.toList.map σ.sv) nc cap) o.type k')
def KH (P : Program) (G : Cx) (ops : List Oper) (σ : zJ) (o : Oper) (x : AV) : Prop :=
 match o.guard with
 | none => lB P G true none σ o x
 | some (j, want) => ∃ g x0, YX ops σ j want = some g ∧ x = .gd g x0 ∧ (((G.conc && !g) = true ∧ x0 = tU P o.type) ∨ ((G.conc && !g) = false ∧ lB P G g (some g) σ o x0))
def Xm (G : Cx) (m : Option Nat) (σ : zJ) (o : Oper) : Bool :=
 match o.op with
 | .alloc _ | .box _ _ | .store _ _ _ | .makeSlice _ _ _ | .call { callee := .builtin .append, .. } => false
 | .buildSlice _ _ parts => !(parts.toList.map fun p => σ.sv p.2).any AV.hasOwn
 | .call { callee := .value f, args, .. } =>
  match σ.sv f with
  | .fn (.func fid) nf first nc cap => !(yA nf first (args.toList.map σ.sv) nc cap).any AV.hasOwn && (G.fre fid (yA nf first (args.toList.map σ.sv) nc cap)).isNone
  | _ => false
 | op => op.operands.toList.all fun x =>
  match (σ.sv x).top with
  | some k => Nat.blt k (QU m σ.nb)
  | none => true
def s7 (G : Cx) (ops : List Oper) (σ : zJ) (o : Oper) : Bool :=
 match o.guard with
 | some (j, want) =>
  match YX ops σ j want with
  | some g => G.conc && !g
  | none => false
 | none => false
def XK (G : Cx) (m : Option Nat) (ops : List Oper) (σ : zJ) (o : Oper) : Bool := s7 G ops σ o || Xm G m σ o
theorem pG {σ : zJ} {o : Oper} {K : zJ → Prop} (he : XK G m ops σ o = true) (h : XM P G m ops o σ K) : ∃ x, KH P G ops σ o x ∧ K (σ.put o.dst x) := by
 unfold XM at h
 unfold KH
 cases hg : o.guard with
 | none =>
  have he : Xm G m σ o = true := by
   unfold XK s7 at he
   simp_all
  rw [hg] at h
  simp only at h ⊢
  unfold Vq at h
  unfold Xm at he
  split at h
  ·simp_all
  ·simp_all
  ·exact h.elim
  ·rename_i ho
   split at h
   ·exact h.elim
   ·rename_i hno
    split at h
    ·rename_i hb
     obtain ⟨rfl, _⟩ := Yp hb
     rw [Zm] at h
     exact ⟨_, .inr (.inl ⟨_, _, _, ho, hno, hb, fun _ => h.1⟩), h.2⟩
    ·exact h.elim
  ·simp_all
  ·rename_i f args ts ho
   split at h
   ·rename_i hf
    rw [Zm] at h
    obtain ⟨h1, h2⟩ := h
    split at h2
    ·simp_all
    ·rename_i hno
     simp only [ho, hf, Bool.and_eq_true, Option.isNone_iff_eq_none] at he
     rw [sN he.2] at h2
     obtain ⟨r, h3, h5⟩ := TL h2
     exact ⟨r, .inr (.inr ⟨f, args, ts, _, _, _, _, _, ho, hf, fun _ => h1, hno, he.2, h3⟩), h5⟩
   simp_all
  ·simp_all
  ·split at h
   ·rename_i hd
    rw [Zm] at h
    exact ⟨_, .inl ⟨_, hd, fun _ => h.1⟩, h.2⟩
   ·exact h.elim
 | some jw =>
  obtain ⟨j, want⟩ := jw
  rw [hg] at h
  simp only at h ⊢
  split at h
  ·rename_i g hga
   cases hc : G.conc && !g with
   | true =>
    simp_all
   | false =>
   rw [hc] at h
   have he : Xm G m σ o = true := by
    unfold XK s7 at he
    simp_all
   simp only at h
   unfold sf at h
   unfold Xm at he
   split at h
   ·rename_i f args ts ho
    split at h
    ·rename_i hf
     rw [ym] at h
     obtain ⟨h1, h2⟩ := h
     simp only [ho, hf, Bool.and_eq_true, Bool.not_eq_true', Option.isNone_iff_eq_none] at he
     rw [if_neg (by rw [he.1]; simp)] at h2
     obtain ⟨r, h3, h5⟩ := TL h2
     exact ⟨_, ⟨g, r, hga, rfl, .inr ⟨hc, .inr (.inr ⟨f, args, ts, _, _, _, _, _, ho, hf, h1, by rw [he.1]; simp, he.2, h3⟩)⟩⟩, h5⟩
    simp_all
   ·rename_i ho
    split at h
    ·exact h.elim
    ·rename_i hno
     split at h
     ·rename_i hb
      obtain ⟨rfl, _⟩ := Yp hb
      rw [ym] at h
      exact ⟨_, ⟨g, _, hga, rfl, .inr ⟨hc, .inr (.inl ⟨_, _, _, ho, hno, hb, h.1⟩)⟩⟩, h.2⟩
     ·exact h.elim
   ·split at h
    ·rename_i hd
     rw [ym] at h
     exact ⟨_, ⟨g, _, hga, rfl, .inr ⟨hc, .inl ⟨_, hd, h.1⟩⟩⟩, h.2⟩
    ·exact h.elim
  ·exact h.elim
theorem Ra {σ : zJ} {o : Oper} {x : AV} {K : zJ → Prop} (hr : KH P G ops σ o x) (h : K (σ.put o.dst x)) : XM P G m ops o σ K := by
 unfold KH at hr
 unfold XM
 cases hg : o.guard with
 | none =>
  rw [hg] at hr
  simp only at hr ⊢
  rcases hr with ⟨ps, h1, h2⟩ | ⟨tb, lb, parts, hob, hnob, heb, hgb⟩ | ⟨f, args, ts, fid, nf, first, nc, cap, ho, hf, h1, h2, hfr, h3⟩
  ·unfold Vq
   split
   ·rename_i ho; rw [ho] at h1; simp [yd, Zj] at h1
   ·rename_i ho; rw [ho] at h1; simp [yd, Zj] at h1
   ·rename_i ho; rw [ho] at h1; simp [yd, Zj] at h1
   ·rename_i ho; rw [ho] at h1; simp [yd, Zj] at h1
   ·rename_i ho; rw [ho] at h1; simp [yd, Zj] at h1
   ·rename_i ho; rw [ho] at h1; simp [yd, Zj] at h1
   ·rename_i ho; rw [ho] at h1; simp [yd, Zj, pz] at h1
   ·rw [h1]
    simp only
    rw [Zm]
    simp_all
  ·simp only [Vq, hob, if_neg hnob, heb, Zm]
   simp_all
  ·simp only [Vq, ho, hf, Zm, if_neg h2, sN hfr]
   simp_all
 | some jw =>
  obtain ⟨j, want⟩ := jw
  rw [hg] at hr
  simp only at hr ⊢
  obtain ⟨g, x0, hga, rfl, hr⟩ := hr
  rw [hga]
  simp only
  rcases hr with ⟨hc, rfl⟩ | ⟨hc, hr⟩
  ·simp_all
  rw [hc]
  simp only
  rcases hr with ⟨ps, h1, h2⟩ | ⟨tb, lb, parts, hob, hnob, heb, hgb⟩ | ⟨f, args, ts, fid, nf, first, nc, cap, ho, hf, h1, h2, hfr, h3⟩
  ·unfold sf
   split
   ·rename_i ho; rw [ho] at h1; simp [yd, Zj] at h1
   ·rename_i ho; rw [ho] at h1; simp [yd, Zj] at h1
   ·rw [h1]
    simp only
    rw [ym]
    simp_all
  ·simp only [sf, hob, if_neg hnob, heb, ym]
   simp_all
  ·simp only [sf, ho, hf, ym, if_neg h2]
   simp_all
theorem yk.guard {σ σ' : zJ} {d : Option Tmp} (h : yk m d σ σ') {j : Nat} {want : Bool} (hd : ∀ t, d = some t → (ops[j]?).bind (·.dst) ≠ some t) :
  YX ops σ' j want = YX ops σ j want := by
 unfold YX
 cases ho : ops[j]? with
 | none => rfl
 | some o =>
  simp only
  cases hod : o.dst with
  | none => rfl
  | some t =>
   simp only
   have hne : d ≠ some t := fun e => hd t e (by rw [ho, Option.bind_some, hod])
   rw [h.n, h.tm t hne]
theorem mK {σ σ' : zJ} {o : Oper} {x : AV} {d : Option Tmp} (hG : yk m d σ σ') (h1 : ∀ t, d = some t → t ∉ o.looksAt ops.toArray) (he : XK G m ops σ o = true) (hr : KH P G ops σ o x) :
  KH P G ops σ' o x ∧ XK G m ops σ' o = true := by
 have hl := U0 h1
 have hev : ∀ y ∈ o.op.operands, σ'.ev y = σ.ev y := fun y hy => hG.ev (hl y hy)
 have hsv : ∀ y ∈ o.op.operands, σ'.sv y = σ.sv y := fun y hy => YS (hev y hy)
 have key : ∀ g q x, Xm G m σ o = true → lB P G g q σ o x → lB P G g q σ' o x := by
  rintro g q x he (⟨ps, h1, h2⟩ | ⟨tb, lb, parts, hob, hnob, heb, hgb⟩ | ⟨f, args, ts, fid, nf, first, nc, cap, ho, hf, h1, h2, hfr, h3⟩)
  ·refine .inl ⟨ps, ?_, h2⟩
   rw [← h1]
   refine VQ hev fun y hy k hk => hG.bl k ?_
   have hall : (o.op.operands.toList.all fun x => match (σ.sv x).top with | some k => Nat.blt k (QU m σ.nb) | none => true) = true := by
    unfold Xm at he
    split at he
    ·cases he
    ·cases he
    ·cases he
    ·cases he
    ·cases he
    ·rename_i ho; rw [ho] at h1; simp [yd, Zj] at h1
    ·rename_i ho; rw [ho] at h1; simp [yd, Zj] at h1
    ·exact he
   have := List.all_eq_true.1 hall y (Array.mem_toList_iff.2 hy)
   rw [show (σ.sv y).top = some k from hk] at this
   simp_all
  ·have hin : ∀ p ∈ parts.toList, p.2 ∈ o.op.operands := fun p hp => by rw [hob]; simp only [Op.operands, List.mem_toArray, List.mem_map]; exact ⟨p, hp, rfl⟩
   have e1 : (parts.toList.map fun p => σ'.sv p.2) = parts.toList.map fun p => σ.sv p.2 := List.map_congr_left fun p hp => hsv _ (hin p hp)
   have e2 : Zb σ' (parts.toList.map (·.2)) = Zb σ (parts.toList.map (·.2)) := Yo fun y hy => by
    obtain ⟨p, hp, rfl⟩ := List.mem_map.1 hy
    grind
   exact .inr (.inl ⟨tb, lb, parts, hob, by rw [e1]; exact hnob, by rw [e1]; exact (Yp heb).2 _, by rw [e2]; exact hgb⟩)
  ·have hin : ∀ y ∈ args.toList, y ∈ o.op.operands := fun y hy => by rw [ho]; simp only [Op.operands, Call.operands, Array.mem_append]; exact .inr (Array.mem_toList_iff.1 hy)
   have e1 := hev f (by rw [ho]; simp [Op.operands, Call.operands])
   have e2 : args.toList.map σ'.sv = args.toList.map σ.sv := List.map_congr_left fun y hy => hsv _ (hin y hy)
   have e3 : Zb σ' args.toList = Zb σ args.toList := Yo fun y hy => hev _ (hin y hy)
   exact .inr (.inr ⟨f, args, ts, fid, nf, first, nc, cap, ho, by rw [YS e1]; exact hf, by rw [e1, e3]; exact h1, by rw [e2]; exact h2, by rw [e2]; exact hfr, by rw [e2]; exact h3⟩)
 have hgd : ∀ j want, o.guard = some (j, want) → YX ops σ' j want = YX ops σ j want := fun j want hg => hG.guard (uz h1 hg)
 have hoff : s7 G ops σ' o = s7 G ops σ o := by
  unfold s7
  grind
 constructor
 ·unfold KH at hr ⊢
  cases hg : o.guard with
  | none =>
   rw [hg] at hr
   refine key _ _ _ ?_ hr
   unfold XK s7 at he
   simp_all
  | some jw =>
   obtain ⟨j, want⟩ := jw
   rw [hg] at hr
   obtain ⟨g, x0, h2, h3, h4⟩ := hr
   refine ⟨g, x0, by rw [hgd j want hg]; exact h2, h3, ?_⟩
   rcases h4 with h4 | ⟨hc, h4⟩
   ·exact .inl h4
   ·refine .inr ⟨hc, key _ _ _ ?_ h4⟩
    unfold XK s7 at he
    simp_all
 ·have hall : (o.op.operands.toList.all fun x => match (σ.sv x).top with | some k => Nat.blt k (QU m σ.nb) | none => true) = true →
    (o.op.operands.toList.all fun x => match (σ'.sv x).top with | some k => Nat.blt k (QU m σ'.nb) | none => true) = true := fun h => by
   rw [List.all_eq_true] at h ⊢
   intro y hy
   have := h y hy
   rw [hsv y (Array.mem_toList_iff.1 hy)]
   revert this
   split
   ·intro hk
    exact Nat.ble_eq_true_of_le (Nat.le_trans (Nat.le_of_ble_eq_true hk) (NW hG.nb))
   simp
  unfold XK at he ⊢
  rw [hoff]
  cases ho1 : s7 G ops σ o with
  | true => rfl
  | false =>
  rw [ho1, Bool.false_or] at he
  rw [Bool.false_or]
  unfold Xm at he ⊢
  split at he
  ·cases he
  ·cases he
  ·cases he
  ·cases he
  ·cases he
  ·rename_i parts ho
   have e1 : (parts.toList.map fun p => σ'.sv p.2) = parts.toList.map fun p => σ.sv p.2 := List.map_congr_left fun p hp => hsv _ (by rw [ho]; simp only [Op.operands, List.mem_toArray, List.mem_map]; exact ⟨p, hp, rfl⟩)
   grind
  ·rename_i f args ts ho
   have hin : ∀ y ∈ args.toList, y ∈ o.op.operands := fun y hy => by rw [ho]; simp only [Op.operands, Call.operands, Array.mem_append]; exact .inr (Array.mem_toList_iff.1 hy)
   have e1 := hev f (by rw [ho]; simp [Op.operands, Call.operands])
   have e2 : args.toList.map σ'.sv = args.toList.map σ.sv := List.map_congr_left fun y hy => hsv _ (hin y hy)
   rw [YS e1, e2]
   exact he
  simp_all
end
end Go.Sx

namespace Go.Sx
universe u
open Go Go.RowKit
inductive N9 (ops : List Oper) : Nat → Nat → Prop where
 | edge {i j : Nat} {o : Oper} {e : Edge} (ho : ops[j]? = some o) (he : e ∈ o.after) (hb : Region.binds .any e = true) (hi : e.on = i) : N9 ops i j
 | step {i j : Nat} {o : Oper} {e : Edge} (ho : ops[j]? = some o) (he : e ∈ o.after) (hb : Region.binds .any e = true) (hi : N9 ops i e.on) : N9 ops i j
def XT (acc : List Nat) : List Edge → Nat
 | [] => 0
 | e :: es => bif Region.binds .any e then (1 <<< e.on) ||| acc.getD e.on 0 ||| XT acc es else XT acc es
def Rc : List Oper → List Nat → List Nat
 | [], acc => acc
 | o :: os, acc => Rc os (acc ++ [XT acc o.after.toList])
def Closed (ops : List Oper) (L : Array Bool) : Prop :=
 ∀ j o, ops[j]? = some o → L.getD j false = true → ∀ e ∈ o.after, Region.binds .any e = true → L.getD e.on false = true
def stepJ (P : Program) (G : Cx) (m : Option Nat) (ops : List Oper) (late : Bool) (o : Oper) (σ : zJ) (k : zJ → Prop) : Prop :=
 match late with
 | true => Ty P G ops o σ k
 | false => XM P G m ops o σ k
def wd (P : Program) (G : Cx) (m : Option Nat) (ops : List Oper) (late : Nat → Bool) : Nat → Array Bool → zJ → (zJ → Prop) → Prop
 | 0, L, σ, k => Region.ready .any ops.toArray L = [] ∧ k σ
 | f + 1, L, σ, k => (Region.ready .any ops.toArray L = [] → k σ) ∧
   ∀ j ∈ Region.ready .any ops.toArray L, ∀ o, ops[j]? = some o → stepJ P G m ops (late j) o σ fun σ' => wd P G m ops late f (L.setIfInBounds j true) σ' k
def Gn (ops : List Oper) (A : List Nat) (late : Nat → Bool) (L : Array Bool) (i : Nat) (oi : Oper) : Bool :=
 (List.range ops.length).all fun j => j == i || (A.getD j 0).testBit i || L.getD j true ||
  match ops[j]? with
  | some oj => !late j && oi.apart ops.toArray oj
  | none => true
def mi (G : Cx) (m : Option Nat) (ops : List Oper) (A : List Nat) (late : Nat → Bool) (L : Array Bool) (σ : zJ) (i : Nat) : Bool :=
 match ops[i]? with
 | some o => XK G m ops σ o && Gn ops A late L i o
 | none => false
def tT (rs : List Nat) (p : Nat → Prop) : Prop :=
 match rs with
 | [] => True
 | [i] => p i
 | i :: rs => p i ∧ tT rs p
def wk (P : Program) (G : Cx) (m : Option Nat) (ops : List Oper) (A : List Nat) (late : Nat → Bool) : Nat → Array Bool → zJ → (zJ → Prop) → Prop
 | 0, L, σ, k =>
  match Region.ready .any ops.toArray L with
  | [] => k σ
  | _ => False
 | f + 1, L, σ, k =>
  match Region.ready .any ops.toArray L with
  | [] => k σ
  | rs =>
   match rs.find? (mi G m ops A late L σ) with
   | some i =>
    match ops[i]? with
    | some o => XM P G m ops o σ fun σ' => wk P G m ops A late f (L.setIfInBounds i true) σ' k
    | none => False
   | none => tT rs fun i =>
    match ops[i]? with
    | some o => stepJ P G m ops (late i) o σ fun σ' => wk P G m ops A late f (L.setIfInBounds i true) σ' k
    | none => False
section
variable {P : Program} {G : Cx} {m : Option Nat} {ops : List Oper} {late : Nat → Bool}
theorem XI {acc : List Nat} {i : Nat} : ∀ (es : List Edge), (XT acc es).testBit i = true → ∃ e ∈ es, Region.binds .any e = true ∧ (e.on = i ∨ (acc.getD e.on 0).testBit i = true)
 | [], h => by simp [XT] at h
 | e :: es, h => by
  unfold XT at h
  cases hb : Region.binds .any e with
  | false =>
   rw [hb] at h
   obtain ⟨e', h1, h2⟩ := XI es h
   grind
  | true =>
   rw [hb] at h
   simp only [cond_true, Nat.testBit_or, Bool.or_eq_true] at h
   rcases h with (h | h) | h
   ·refine ⟨e, List.mem_cons_self, hb, .inl ?_⟩
    rw [Nat.one_shiftLeft, Nat.testBit_two_pow] at h
    simp_all
   ·simp_all
   ·obtain ⟨e', h1, h2⟩ := XI es h
    grind
theorem T6 : ∀ (os : List Oper) (acc : List Nat), (∀ j, os[j]? = ops[acc.length + j]?) → (∀ j i, (acc.getD j 0).testBit i = true → N9 ops i j) →
  ∀ j i, ((Rc os acc).getD j 0).testBit i = true → N9 ops i j
 | [], _, _, h, j, i, hi => h j i hi
 | o :: os, acc, ho, h, j, i, hi => by
  refine T6 os (acc ++ [XT acc o.after.toList]) (fun j => ?_) (fun j i hi => ?_) j i hi
  ·have := ho (j + 1)
   grind
  ·by_cases hj : j < acc.length
   ·grind
   ·by_cases hj' : j = acc.length
    ·subst hj'
     rw [List.getD_eq_getElem?_getD, List.getElem?_append_right (Nat.le_refl _)] at hi
     simp only [Nat.sub_self, List.getElem?_cons_zero, Option.getD_some] at hi
     obtain ⟨e, h1, h2, h3⟩ := XI _ hi
     have ho' : ops[acc.length]? = some o := by simpa using (ho 0).symm
     rcases h3 with h3 | h3
     ·exact .edge ho' (Array.mem_toList_iff.1 h1) h2 h3
     ·exact .step ho' (Array.mem_toList_iff.1 h1) h2 (h _ _ h3)
    grind
theorem Qx {L : Array Bool} (hL : Closed ops L) {i j : Nat} (h : N9 ops i j) {o : Oper} (ho : ops[j]? = some o)
  (hj : ∀ e ∈ o.after, Region.binds .any e = true → L.getD e.on false = true) : L.getD i false = true := by
 induction h generalizing o with
 | edge ho' he hb hi =>
  grind
 | step ho' he hb hi ih =>
  rw [ho'] at ho
  cases ho
  have h1 := hj _ he hb
  rename_i e
  cases ho2 : ops[e.on]? with
  | none => cases hi with
   | edge h => rw [ho2] at h; cases h
   | step h => rw [ho2] at h; cases h
  | some o2 => exact ih ho2 (hL _ _ ho2 h1)
theorem Closed.set {L : Array Bool} (hL : Closed ops L) {j : Nat} (hj : j ∈ Region.ready .any ops.toArray L) : Closed ops (L.setIfInBounds j true) := by
 obtain ⟨hun, oj, hoj, hall⟩ := mem_ready.1 hj
 rw [List.getElem?_toArray] at hoj
 have keep : ∀ n, L.getD n false = true → (L.setIfInBounds j true).getD n false = true := fun n h => by
  by_cases e : j = n
  ·grind
  simp_all
 intro n o ho hn e he hb
 by_cases ejn : j = n
 ·simp_all
 ·refine keep _ (hL n o ho ?_ e he hb)
  simp_all
theorem first {i : Nat} {oi : Oper} {x : AV} {k : zJ → Prop} (hi : ops[i]? = some oi) : ∀ (f : Nat) (L : Array Bool) (σ : zJ), Closed ops L →
  (∀ j oj, ops[j]? = some oj → j ≠ i → L.getD j true = false → ¬ N9 ops i j → late j = false ∧ oi.apart ops.toArray oj = true) → i ∈ Region.ready .any ops.toArray L →
  XK G m ops σ oi = true → KH P G ops σ oi x → wd P G m ops late f (L.setIfInBounds i true) (σ.put oi.dst x) k → wd P G m ops late (f + 1) L σ k := by
 intro f
 have self : ∀ (f : Nat) (L : Array Bool) (σ : zJ), KH P G ops σ oi x → wd P G m ops late f (L.setIfInBounds i true) (σ.put oi.dst x) k →
   stepJ P G m ops (late i) oi σ fun σ' => wd P G m ops late f (L.setIfInBounds i true) σ' k := fun f L σ hr H => by
  cases late i with
  | true => exact sW (m := m) (Ra hr H)
  | false => exact Ra hr H
 induction f with
 | zero =>
  intro L σ hL hs hr he hres H
  refine ⟨fun h => (by rw [h] at hr; cases hr), fun j hj o ho => ?_⟩
  by_cases hji : j = i
  ·simp_all
  ·have := ready_mono hj hji
   rw [H.1] at this
   cases this
 | succ f ih =>
  intro L σ hL hs hr he hres H
  refine ⟨fun h => (by rw [h] at hr; cases hr), fun j hj o ho => ?_⟩
  by_cases hji : j = i
  ·simp_all
  ·have h1 := H.2 j (ready_mono hj hji) o ho
   obtain ⟨hjun, oj, hoj, hall⟩ := mem_ready.1 hj
   rw [List.getElem?_toArray, ho] at hoj
   cases hoj
   have hiun := (mem_ready.1 hr).1
   have hnot : ¬ N9 ops i j := fun hA => by
    have := Qx hL hA ho hall
    grind
   obtain ⟨hlate, hap⟩ := hs j o ho hji hjun hnot
   obtain ⟨a1, a2, a3⟩ := Oper.apart_spec hap
   rw [hlate] at h1 ⊢
   have h2 := Oq a1 a2 h1
   refine vV (fun σ' h => ?_) h2
   obtain ⟨hG, hA⟩ := h
   obtain ⟨r1, r2⟩ := mK hG a3 he hres
   refine ih _ σ' (hL.set hj) (fun n on hn hni hnun hnA => ?_) (ready_mono hr (Ne.symm hji)) r2 r1 ?_
   ·refine hs n on hn hni ?_ hnA
    by_cases hjn : j = n
    all_goals simp_all
   ·rw [Array.setIfInBounds_comm _ _ hji]
    exact hA
theorem Ts (rs : List Nat) (p : Nat → Prop) : tT rs p ↔ ∀ i ∈ rs, p i := by
 induction rs with
 | nil => simp [tT]
 | cons i rs ih =>
  cases rs with
  | nil => simp [tT]
  | cons j rs => rw [show tT (i :: j :: rs) p = (p i ∧ tT (j :: rs) p) from rfl, ih]; simp
theorem uY (hO : ZZ P G) {σ : zJ} {f : FuncId} {xs : List AV} {k k' : zJ → AV → Prop} (hk : ∀ σ x, k σ x → k' σ x) (h : vW G σ f xs k) : vW G σ f xs k' := by
 unfold vW at h ⊢
 split at h
 ·rename_i T hT
  exact (hO.own f T hT).mono _ _ _ _ _ (fun nb bl x h => hk _ _ h) h
 ·exact h
theorem rJ (hO : ZZ P G) {σ : zJ} {f : FuncId} {xs : List AV} {t : TypeId} {d : Option Tmp} {K K' : zJ → Prop} (hk : ∀ σ, K σ → K' σ) (h : WY P G σ f xs t d K) : WY P G σ f xs t d K' := by
 unfold WY at h ⊢
 split at h
 ·rename_i h1
  rw [if_pos h1]
  split at h
  ·rename_i T hT
   exact (hO.own f T hT).mono _ _ _ _ _ (fun nb bl x h => hk _ h) h
  ·split at h
   ·rename_i h2
    rw [if_pos h2]
    exact YV (fun r hr => hk _ hr) h
   ·rename_i h2
    rw [if_neg h2]
    split at h
    ·split at h
     ·exact h.elim
     ·rename_i h3
      rw [if_neg h3]
      split at h
      ·exact zC (hk _) h
      ·exact YV (fun r hr => hk _ hr) h
    ·exact h
 ·rename_i h1
  rw [if_neg h1]
  split at h
  ·exact zC (hk _) h
  split at h
  ·exact uY hO (fun _ _ h => hk _ h) h
  ·exact YV (fun r hr => hk _ hr) h
theorem oI (hO : ZZ P G) {g : Bool} {σ : zJ} {o : Oper} {K K' : zJ → Prop} (hk : ∀ σ, K σ → K' σ) (h : rO P G g σ o K) : rO P G g σ o K' := by
 unfold rO at h ⊢
 split at h
 ·split at h
  ·split at h
   ·rw [zX] at h ⊢
    exact ⟨fun hg => zC (uY hO fun _ _ h => hk _ h) (h.1 hg), fun hg => hk _ (h.2 hg)⟩
   ·exact vL hk h
  ·split at h
   ·rename_i T hT
    rw [zX] at h ⊢
    exact ⟨fun hg => zC (hO.mono _ T hT _ _ _ _ _ fun nb bl x h => hk _ h) (h.1 hg), fun hg => hk _ (h.2 hg)⟩
   omega
  ·exact vL hk h
 ·exact vL hk h
theorem Nf (hO : ZZ P G) {σ : zJ} {o : Oper} {K K' : zJ → Prop} (hk : ∀ σ, K σ → K' σ) (h : jx P G σ o K) : jx P G σ o K' := by
 unfold jx at h ⊢
 split at h
 ·grind
 ·split at h
  ·exact zC (hk _) h
  ·exact h
 ·split at h
  ·split at h
   ·exact zC (hk _) h
   ·exact h
  omega
 ·split at h
  ·exact zC (hk _) h
  split at h
  ·split at h
   ·exact zC (hk _) h
   ·exact h
  ·exact h
 ·split at h
  ·exact zC (hk _) h
  ·exact h
 ·split at h
  ·exact zC (rJ hO hk) h
  ·split at h
   ·rename_i T hT
    exact zC (hO.mono _ T hT _ _ _ _ _ fun nb bl x h => hk _ h) h
   ·exact h
  ·exact h
 ·split at h
  ·split at h
   ·rename_i htt
    rw [if_pos htt]
    split at h
    ·exact zC (hk _) h
    ·exact h
   ·rename_i htt
    rw [if_neg htt]
    split at h
    ·exact zC (hk _) h
    omega
  ·exact h
 ·split at h
  ·exact zC (hk _) h
  ·exact h
theorem sZ (hO : ZZ P G) {σ : zJ} {o : Oper} {K K' : zJ → Prop} (hk : ∀ σ, K σ → K' σ) (h : Ty P G ops o σ K) : Ty P G ops o σ K' := by
 unfold Ty at h ⊢
 split at h
 ·exact Nf hO hk h
 ·split at h
  ·rename_i g _
   cases hc : G.conc && !g with
   | true => simp_all
   | false => rw [hc] at h; exact oI hO hk h
  ·exact h
theorem UU (hO : ZZ P G) {l : Bool} {σ : zJ} {o : Oper} {K K' : zJ → Prop} (hk : ∀ σ, K σ → K' σ) (h : stepJ P G m ops l o σ K) : stepJ P G m ops l o σ K' := by
 cases l with
 | true => exact sZ hO hk h
 | false => exact vV hk h
theorem NT {l : Bool} {σ : zJ} {o : Oper} {K : zJ → Prop} (h : stepJ P G m ops l o σ K) : Ty P G ops o σ K := by
 cases l with
 | true => exact h
 | false => exact sW h
theorem mA {A : List Nat} {L : Array Bool} {i : Nat} {oi : Oper} (hA : ∀ j i, (A.getD j 0).testBit i = true → N9 ops i j) (h : Gn ops A late L i oi = true) :
  ∀ j oj, ops[j]? = some oj → j ≠ i → L.getD j true = false → ¬ N9 ops i j → late j = false ∧ oi.apart ops.toArray oj = true := fun j oj hj hji hun hno => by
 have hlt : j < ops.length := (List.getElem?_eq_some_iff.1 hj).1
 have := List.all_eq_true.1 h j (List.mem_range.2 hlt)
 grind
theorem Vu (hO : ZZ P G) {A : List Nat} (hA : ∀ j i, (A.getD j 0).testBit i = true → N9 ops i j) {k : zJ → Prop} : ∀ (f : Nat) (L : Array Bool) (σ : zJ), Closed ops L →
  wk P G m ops A late f L σ k → wd P G m ops late f L σ k
 | 0, L, σ, _, h => by
  unfold wk at h
  split at h
  ·rename_i hr; exact ⟨hr, h⟩
  simp_all
 | f + 1, L, σ, hL, h => by
  unfold wk at h
  split at h
  ·rename_i hr
   exact ⟨fun _ => h, fun j hj => by rw [hr] at hj; cases hj⟩
  ·rename_i hne
   split at h
   ·rename_i i hf
    have hmem := List.mem_of_find?_eq_some hf
    have he := List.find?_some hf
    split at h
    ·rename_i o ho
     unfold mi at he
     rw [ho] at he
     simp only [Bool.and_eq_true] at he
     obtain ⟨x, h1, h2⟩ := pG he.1 h
     exact first ho f L σ hL (mA hA he.2) hmem he.1 h1 (Vu hO hA f _ _ (hL.set hmem) h2)
    simp_all
   ·refine ⟨fun hr => (hne hr).elim, fun j hj o ho => ?_⟩
    have := (Ts _ _).1 h j hj
    rw [ho] at this
    exact UU hO (fun σ' h' => Vu hO hA f _ _ (hL.set hj) h') this
section
variable {E : Env} {r : Option Nat} {n : Nat}
theorem vf (hO : ZZ P E.G) (hY : Yu P E) {Q : Exit → Act → World → Prop} {k : zJ → Prop} (hK : ∀ σ' a' w', k σ' → St E σ' a' w' → Q .normal a' w') : ∀ (f : Nat) (L : Array Bool) {σ : zJ} {a : Act} {w : World},
  wd P E.G m ops late f L σ k → St E σ a w → wpAnyIn (FW r) n P .any ops.toArray Q f L a w
 | 0, _, _, _, _, h, hst => ⟨h.1, hK _ _ _ h.2 hst⟩
 | f + 1, L, σ, a, w, h, hst => by
  refine ⟨fun hr => hK _ _ _ (h.1 hr) hst, fun j hj => ?_⟩
  obtain ⟨_, o, ho, _⟩ := mem_ready.1 hj
  have ho' := ho
  rw [List.getElem?_toArray] at ho'
  have hv := NT (h.2 j hj o ho')
  have key : ∀ σ' a' w', wd P E.G m ops late f (L.setIfInBounds j true) σ' k → St E σ' a' w' → wpAnyIn (FW r) n P .any ops.toArray Q f (L.setIfInBounds j true) a' w' :=
   fun σ' a' w' hv' hst' => vf hO hY hK f _ hv' hst'
  unfold wpOpIn
  rw [ho]
  simp only [Ty] at hv ⊢
  cases hg : o.guard with
  | none =>
   rw [hg] at hv
   simp only [Region.wanted, hg, if_true]
   exact sO hO hY hv hst key
  | some jw =>
   obtain ⟨j', want⟩ := jw
   rw [hg] at hv
   simp only at hv
   split at hv
   ·rename_i g hga
    have hw : Region.wanted o (yielded ops.toArray a.tmps) = g := by
     obtain ⟨S, ρ, _, hF, _⟩ := hst
     simp only [Region.wanted, hg]
     exact V0 hga hF
    obtain ⟨h1, h2⟩ := tG (r := r) (n := n) (Q := Q) hO hY hv hst key
    rw [hw]
    cases g with
    | true => simp_all
    | false => rw [if_neg (by simp)]; exact ⟨fun _ _ => trivial, h2 rfl⟩
   ·exact hv.elim
theorem St.drew {σ : zJ} {a : Act} {w : World} (h : St E σ a w) : St E σ a { w with drawn := w.drawn + 1 } := by
 obtain ⟨S, ρ, hM, hF, hD⟩ := h
 have hS : ∀ b, S b → S b ∧ ({ w with drawn := w.drawn + 1 } : World).heap[b]? = w.heap[b]? := fun b hb => ⟨hb, rfl⟩
 exact ⟨S, ρ, ⟨⟨hM.fr.os, hM.fr.tape, hM.fr.output, hM.fr.size, hM.fr.block, Nat.le_trans hM.fr.drawn (sP w 1)⟩, hM.sb, hM.sup, hM.sub, hM.glob, hM.hi,
  fun k hk => (hM.ok k hk).mono hS (zI.refl _) fun _ _ => rfl, hM.own, hM.dis, hM.b0, hM.nbz, hM.ole⟩, hF.mono hS (zI.refl _), hD.mono hS⟩
def Uo (j : Nat) : List Oper → List Nat → Bool
 | o :: os, a :: as => (a.testBit j || (match o.op with | .move _ => true | _ => false)) && Uo j os as
 | _, _ => true
def R9 (m : Nat) : Nat → List Oper → Bool
 | 0, _ => true
 | _, [] => true
 | j + 1, o :: os => (m.testBit 0 || (match o.op with | .move _ => true | _ => false)) && R9 (m / 2) j os
def qE (G : Cx) (ops : List Oper) (A : List Nat) (j : Nat) : Bool :=
 match ops[j]? with
 | some o =>
  match o.op with
  | .store _ _ _ => true
  | .call { callee := .value (.func f), .. } => (G.own f).isSome || (Nat.beq ((A.getD j 0) &&& (2 ^ j - 1)) (2 ^ j - 1) && Uo j (ops.drop (j + 1)) (A.drop (j + 1)))
  | .call { callee := .builtin .append, .. } => R9 (A.getD j 0) j ops
  | _ => Nat.beq ((A.getD j 0) &&& (2 ^ j - 1)) (2 ^ j - 1) && Uo j (ops.drop (j + 1)) (A.drop (j + 1))
 | none => false
def HW (o : Oper) : Bool :=
 match o.op with
 | .call { callee := .builtin .append, .. } => true
 | _ => false
def SJ {α : Sort u} : Nat → (Nat → α) → α
 | 0, k => k 0
 | n + 1, k => SJ n fun m => k (Nat.succ m)
theorem WK {α : Sort u} : ∀ (n : Nat) (k : Nat → α), SJ n k = k n
 | 0, _ => rfl
 | n + 1, k => WK n _
def Gu (σ : zJ) : Nat := σ.nb
def VH (P : Program) (G : Cx) (ops : List Oper) (σ : zJ) (k : zJ → Prop) : Prop :=
 match ops.any HW with
 | true => SJ (Gu σ) fun m => wk P G (some m) ops (Rc ops []) (qE G ops (Rc ops [])) ops.length (Array.replicate ops.length false) σ k
 | false => wk P G none ops (Rc ops []) (qE G ops (Rc ops [])) ops.length (Array.replicate ops.length false) σ k
theorem pj (hO : ZZ P E.G) (hY : Yu P E) {id : Nat} {ops : Array Oper} {σ : zJ} {a : Act} {w : World} {k : zJ → Prop} {Q : Exit → Act → World → Prop} (hm : P.follows .mixedOrders = true) (hv : VH P E.G ops.toList σ k) (hst : St E σ a w)
  (hK : ∀ σ' a' w', k σ' → St E σ' a' w' → Q .normal a' w') : (Code.region id ops true).wpIn (FW r) n P Q a w := by
 refine wpIn_region_any hm ?_
 obtain ⟨m, hv⟩ : ∃ m, wk P E.G m ops.toList (Rc ops.toList []) (qE E.G ops.toList (Rc ops.toList [])) ops.toList.length (Array.replicate ops.toList.length false) σ k := by
  unfold VH at hv
  split at hv
  ·rw [WK] at hv; exact ⟨_, hv⟩
  grind
 have h1 := Vu hO (T6 ops.toList [] (by simp) fun j i h => by simp at h) _ _ _ (fun j o _ hL => by simp [Array.getD_eq_getD_getElem?, Array.getElem?_replicate] at hL; split at hL <;> simp at hL) hv
 have := vf hO hY (r := r) (n := n) (Q := Q) hK _ _ h1 hst.drew
 omega
end
end
end Go.Sx

namespace Go.Sx
universe u
open Go Go.RowKit
def gp : Value → Value → Prop
 | .int k a, .int k' b => k = k' ∧ a = b
 | .bool a, .bool b => a = b
 | x, y => x = y
theorem iu {x y : Value} (h : gp x y) : x = y := by
 unfold gp at h
 grind
def vZ (p : Nat → Prop) : Nat → Prop
 | 0 => True
 | 1 => p 0
 | n + 1 => vZ p n ∧ p n
theorem wU {p : Nat → Prop} {n : Nat} (h : vZ p n) : ∀ i, i < n → p i := by
 induction n with
 | zero => omega
 | succ n ih =>
  intro i hi
  cases n with
  | zero =>
   have : i = 0 := by omega
   rw [this]; exact h
  | succ n =>
   by_cases e : i = n + 1
   ·rw [e]; exact h.2
   ·exact ih h.1 i (by omega)
def zd : AV → AV → Prop
 | .v a, y =>
  match y with
  | .junk => True
  | .v b => gp a b
  | .xl _ _ len _ => a = .slice none 0 0 ∧ len = 0
  | _ => False
 | .str a, y =>
  match y with
  | .junk => True
  | .str b => a = b
  | _ => False
 | .xl f sz len els, y =>
  match y with
  | .junk => True
  | .xl f' sz' len' els' => (f' = true → f = true) ∧ sz' = sz ∧ len' = len ∧ ∀ i j, i < len → j < sz → zd (els i j) (els' i j)
  | _ => False
 | .xq n cells off, y =>
  match y with
  | .junk => True
  | .xq n' cells' off' => n' = n ∧ off' = off ∧ vZ (fun i => zd (cells i) (cells' i)) n
  | _ => False
 | .np k o, y =>
  match y with
  | .junk => True
  | .np k' o' => k' = k ∧ o' = o
  | _ => False
 | .ns k o l, y =>
  match y with
  | .junk => True
  | .ns k' o' l' => k' = k ∧ o' = o ∧ l' = l
  | _ => False
 | .ap k i j, y =>
  match y with
  | .junk => True
  | .ap k' i' j' => k' = k ∧ i' = i ∧ j' = j
  | _ => False
 | .agg n cs, y =>
  match y with
  | .junk => True
  | .agg n' cs' => n' = n ∧ vZ (fun i => zd (cs i) (cs' i)) n
  | _ => False
 | .tup n cs, y =>
  match y with
  | .junk => True
  | .tup n' cs' => n' = n ∧ vZ (fun i => zd (cs i) (cs' i)) n
  | _ => False
 | .fn f nf a nc b, y =>
  match y with
  | .junk => True
  | .fn f' nf' a' nc' b' => f' = f ∧ nf' = nf ∧ nc' = nc ∧ vZ (fun i => zd (a i) (a' i)) nf ∧ vZ (fun i => zd (b i) (b' i)) nc
  | _ => False
 | .gd g x, y =>
  match y with
  | .junk => True
  | .gd g' x' => g' = g ∧ zd x x'
  | y => g = true ∧ zd x y
 | .yl k, y =>
  match y with
  | .junk => True
  | .yl k' => k' = k
  | _ => False
 | .nb p z, y =>
  match y with
  | .junk => True
  | .nb p' z' => p' = p ∧ (z = true → z' = true)
  | _ => False
 | .er z, y =>
  match y with
  | .junk => True
  | .er z' => z' = z
  | _ => False
 | .ps k l, y =>
  match y with
  | .junk => True
  | .ps k' l' => k' = k ∧ l' = l
  | _ => False
 | .junk, y =>
  match y with
  | .junk => True
  | _ => False
section
variable {w : World} {S : Nat → Prop}
theorem Xb {x y : AV} {v : Value} {ρ : Nat → Own} (hx : zE w S ρ x v) (h : zd x y) : zE w S ρ y v := by
 induction hx generalizing y with
 | v x =>
  unfold zd at h
  split at h
  ·exact .junk _
  ·rw [← iu h]; exact .v _
  ·obtain ⟨rfl, rfl⟩ := h
   exact .xl none 0 (fun _ _ => undef) (Nat.le_refl _) (Nat.zero_le _) (fun _ => rfl) (fun i j hi _ => absurd hi (Nat.not_lt_zero _)) fun i j hi _ => absurd hi (Nat.not_lt_zero _)
  simp_all
 | str l =>
  unfold zd at h
  split at h
  ·exact .junk _
  ·rw [← h]; exact .str _
  simp_all
 | xl o cap cvs hle hm hf hc hr ih =>
  unfold zd at h
  split at h
  ·exact .junk _
  ·obtain ⟨h1, rfl, rfl, h4⟩ := h
   exact .xl o cap cvs hle hm (fun e => hf (h1 e)) hc fun i j hi hj => ih i j hi hj (h4 i j hi hj)
  simp_all
 | xq A cvs hc hr ih =>
  unfold zd at h
  split at h
  ·exact .junk _
  ·obtain ⟨rfl, rfl, h4⟩ := h
   exact .xq A cvs hc fun i hi => ih i hi (wU h4 i hi)
  simp_all
 | np g h0 =>
  unfold zd at h
  split at h
  ·exact .junk _
  ·obtain ⟨rfl, rfl⟩ := h; exact .np g h0
  simp_all
 | ns g base cap sz L h0 hl hc =>
  unfold zd at h
  split at h
  ·exact .junk _
  ·obtain ⟨rfl, rfl, rfl⟩ := h; exact .ns g base cap sz L h0 hl hc
  simp_all
 | ns0 g base cap sz L A h0 hl hc hz =>
  unfold zd at h
  split at h
  ·exact .junk _
  ·obtain ⟨rfl, rfl, rfl⟩ := h; exact .ns0 g base cap sz L A h0 hl hc hz
  simp_all
 | nsn sz o h0 =>
  unfold zd at h
  split at h
  ·exact .junk _
  ·obtain ⟨rfl, rfl, rfl⟩ := h; exact .nsn sz o h0
  simp_all
 | ap g base cap sz L h0 hi hc =>
  unfold zd at h
  split at h
  ·exact .junk _
  ·obtain ⟨rfl, rfl, rfl⟩ := h; exact .ap g base cap sz L h0 hi hc
  simp_all
 | yl g r h0 =>
  unfold zd at h
  split at h
  ·exact .junk _
  ·rw [h]; exact .yl g r h0
  simp_all
 | dyl h0 hx =>
  unfold zd at h
  split at h
  ·exact .junk _
  ·rw [h]; exact .dyl h0 hx
  simp_all
 | dnp h0 hx =>
  unfold zd at h
  split at h
  ·exact .junk _
  ·obtain ⟨rfl, rfl⟩ := h; exact .dnp h0 hx
  simp_all
 | dns h0 hx =>
  unfold zd at h
  split at h
  ·exact .junk _
  ·obtain ⟨rfl, rfl, rfl⟩ := h; exact .dns h0 hx
  simp_all
 | dap h0 hx =>
  unfold zd at h
  split at h
  ·exact .junk _
  ·obtain ⟨rfl, rfl, rfl⟩ := h; exact .dap h0 hx
  simp_all
 | agg vs hn hr ih =>
  unfold zd at h
  split at h
  ·exact .junk _
  ·obtain ⟨rfl, h2⟩ := h; exact .agg vs hn fun i hi => ih i hi (wU h2 i hi)
  simp_all
 | tup vs hn hr ih =>
  unfold zd at h
  split at h
  ·exact .junk _
  ·obtain ⟨rfl, h2⟩ := h; exact .tup vs hn fun i hi => ih i hi (wU h2 i hi)
  simp_all
 | fn vs us hn hm hr hs ih1 ih2 =>
  unfold zd at h
  split at h
  ·exact .junk _
  ·obtain ⟨rfl, rfl, rfl, h4, h5⟩ := h
   exact .fn vs us hn hm (fun i hi => ih1 i hi (wU h4 i hi)) fun i hi => ih2 i hi (wU h5 i hi)
  simp_all
 | gd v h1 h2 ih =>
  unfold zd at h
  split at h
  ·exact .junk _
  ·obtain ⟨rfl, h4⟩ := h; exact .gd v (fun hg => ih hg h4) h2
  simp_all
 | nb t h0 =>
  unfold zd at h
  split at h
  ·exact .junk _
  ·obtain ⟨rfl, h2⟩ := h; exact .nb t fun e => h2 (h0 e)
  simp_all
 | er x h1 h2 =>
  unfold zd at h
  split at h
  ·exact .junk _
  ·rw [h]; exact .er x h1 h2
  simp_all
 | ps g cap h0 hc =>
  unfold zd at h
  split at h
  ·exact .junk _
  ·obtain ⟨rfl, rfl⟩ := h; exact .ps g cap h0 hc
  simp_all
 | dps h0 hx =>
  unfold zd at h
  split at h
  ·exact .junk _
  ·obtain ⟨rfl, rfl⟩ := h; exact .dps h0 hx
  simp_all
 | junk x =>
  unfold zd at h
  split at h
  ·exact .junk _
  simp_all
theorem zV : ∀ x : AV, zd x x
 | .v a => by
  show gp a a
  cases a with
  | int => exact ⟨rfl, rfl⟩
  | bool => rfl
  | _ => exact (rfl : _ = _)
 | .str a => rfl
 | .xl f sz len els => ⟨fun h => h, rfl, rfl, fun i j _ _ => zV _⟩
 | .xq n cells off => ⟨rfl, rfl, by
  have h : ∀ i, zd (cells i) (cells i) := fun i => zV _
  induction n with
  | zero => trivial
  | succ n ih => cases n with
   | zero => exact h 0
   | succ n => exact ⟨ih, h _⟩⟩
 | .np k o => ⟨rfl, rfl⟩
 | .ns k o l => ⟨rfl, rfl, rfl⟩
 | .ap k i j => ⟨rfl, rfl, rfl⟩
 | .agg n cs => ⟨rfl, by
  have h : ∀ i, zd (cs i) (cs i) := fun i => zV _
  induction n with
  | zero => trivial
  | succ n ih => cases n with
   | zero => exact h 0
   | succ n => exact ⟨ih, h _⟩⟩
 | .tup n cs => ⟨rfl, by
  have h : ∀ i, zd (cs i) (cs i) := fun i => zV _
  induction n with
  | zero => trivial
  | succ n ih => cases n with
   | zero => exact h 0
   | succ n => exact ⟨ih, h _⟩⟩
 | .fn f nf a nc b => ⟨rfl, rfl, rfl, by
  have h : ∀ i, zd (a i) (a i) := fun i => zV _
  induction nf with
  | zero => trivial
  | succ n ih => cases n with
   | zero => exact h 0
   | succ n => exact ⟨ih, h _⟩, by
  have h : ∀ i, zd (b i) (b i) := fun i => zV _
  induction nc with
  | zero => trivial
  | succ n ih => cases n with
   | zero => exact h 0
   | succ n => exact ⟨ih, h _⟩⟩
 | .gd g x => ⟨rfl, zV x⟩
 | .yl k => (rfl : k = k)
 | .nb p z => ⟨rfl, fun h => h⟩
 | .er z => (rfl : z = z)
 | .ps k l => ⟨rfl, rfl⟩
 | .junk => trivial
theorem ZT {x y : AV} (h : x = y) : zd x y := h ▸ zV x
end
def Rz : List (Option Nat) → Nat → Nat → Option Nat
 | [], _, _ => none
 | o :: os, i, k =>
  match o with
  | some k' => bif Nat.beq k' k then some i else Rz os (i + 1) k
  | none => Rz os (i + 1) k
def ren (inv : Nat → Option Nat) : AV → AV
 | .np k o =>
  match inv k with
  | some i => .np i o
  | none => .junk
 | .ns k o l =>
  match inv k with
  | some i => .ns i o l
  | none => .junk
 | .ap k i j =>
  match inv k with
  | some k' => .ap k' i j
  | none => .junk
 | .agg n cs => .agg n fun i => ren inv (cs i)
 | .tup n cs => .tup n fun i => ren inv (cs i)
 | .fn f nf a nc b => .fn f nf (fun i => ren inv (a i)) nc fun i => ren inv (b i)
 | .gd g x => .gd g (ren inv x)
 | .yl k =>
  match inv k with
  | some i => .yl i
  | none => .junk
 | .ps k l =>
  match inv k with
  | some i => .ps i l
  | none => .junk
 | x => x
theorem KB {w : World} {S : Nat → Prop} {ρ ρ' : Nat → Own} {inv : Nat → Option Nat} {x : AV} {v : Value} (hi : ∀ k i, inv k = some i → ρ' i = ρ k ∨ ρ' i = .dead) (h : zE w S ρ x v) :
  zE w S ρ' (ren inv x) v := by
 induction h with
 | v x => exact .v x
 | str l => exact .str l
 | xl o cap cvs hle hm hf hc hr ih => exact .xl o cap cvs hle hm hf hc hr
 | xq A cvs hc hr ih => exact .xq A cvs hc hr
 | np g h =>
  simp only [ren]
  split
  ·rename_i i e
   rcases hi _ _ e with e' | e'
   ·exact .np g (e'.trans h)
   ·exact .dnp e' ⟨_, rfl⟩
  ·exact .junk _
 | ns g base cap sz L h hl hc =>
  simp only [ren]
  split
  ·rename_i i e
   rcases hi _ _ e with e' | e'
   ·exact .ns g base cap sz L (e'.trans h) hl hc
   ·exact .dns e' ⟨_, _, rfl⟩
  ·exact .junk _
 | ns0 g base cap sz L A h hl hc h0 =>
  simp only [ren]
  split
  ·rename_i i e
   rcases hi _ _ e with e' | e'
   ·exact .ns0 g base cap sz L A (e'.trans h) hl hc h0
   ·exact .dns e' ⟨_, _, rfl⟩
  ·exact .junk _
 | nsn sz o h =>
  simp only [ren]
  split
  ·rename_i i e
   rcases hi _ _ e with e' | e'
   ·exact .nsn sz o (e'.trans h)
   ·exact .dns e' ⟨_, _, rfl⟩
  ·exact .junk _
 | ap g base cap sz L h hl hc =>
  simp only [ren]
  split
  ·rename_i i e
   rcases hi _ _ e with e' | e'
   ·exact .ap g base cap sz L (e'.trans h) hl hc
   ·exact .dap e' ⟨_, rfl⟩
  ·exact .junk _
 | yl g r h =>
  simp only [ren]
  split
  ·rename_i i e
   rcases hi _ _ e with e' | e'
   ·exact .yl g r (e'.trans h)
   ·exact .dyl e' ⟨_, rfl⟩
  ·exact .junk _
 | dyl h hx =>
  simp only [ren]
  split
  ·rename_i i e
   rcases hi _ _ e with e' | e'
   ·exact .dyl (e'.trans h) hx
   ·exact .dyl e' hx
  ·exact .junk _
 | dnp h hx =>
  simp only [ren]
  split
  ·rename_i i e
   rcases hi _ _ e with e' | e'
   ·exact .dnp (e'.trans h) hx
   ·exact .dnp e' hx
  ·exact .junk _
 | dns h hx =>
  simp only [ren]
  split
  ·rename_i i e
   rcases hi _ _ e with e' | e'
   ·exact .dns (e'.trans h) hx
   ·exact .dns e' hx
  ·exact .junk _
 | dap h hx =>
  simp only [ren]
  split
  ·rename_i i e
   rcases hi _ _ e with e' | e'
   ·exact .dap (e'.trans h) hx
   ·exact .dap e' hx
  ·exact .junk _
 | agg vs hn hr ih => exact .agg vs hn fun i h => ih i h hi
 | tup vs hn hr ih => exact .tup vs hn fun i h => ih i h hi
 | fn vs us hn hm hr hs ih1 ih2 => exact .fn vs us hn hm (fun i h => ih1 i h hi) fun i h => ih2 i h hi
 | gd v h h' ih => exact .gd v (fun h => ih h hi) h'
 | nb t h => exact .nb t h
 | er x h1 h2 => exact .er x h1 h2
 | ps g cap h hc =>
  simp only [ren]
  split
  ·rename_i i e
   rcases hi _ _ e with e' | e'
   ·exact .ps g cap (e'.trans h) hc
   ·exact .dps e' ⟨_, _, rfl⟩
  ·exact .junk _
 | dps h hx =>
  simp only [ren]
  split
  ·rename_i i e
   rcases hi _ _ e with e' | e'
   ·exact .dps (e'.trans h) hx
   ·exact .dps e' hx
  ·exact .junk _
 | junk x => exact .junk x
def gV (ks : List (Option Nat)) (x y : AV) : Prop :=
 match x, y with
 | .v (.slice none 0 0), .ns i o l => ks[i]? = some none ∧ o = 0 ∧ l = 0
 | .xl f _ len _, .ns i o l => ks[i]? = some none ∧ o = 0 ∧ l = 0 ∧ f = true ∧ len = 0
 | x, y => zd (ren (Rz ks 0) x) y
def GA (ks : List (Option Nat)) : OB → OB → Prop
 | _, .dead => True
 | .box t n cells, .box t' n' cells' => t' = t ∧ n' = n ∧ vZ (fun i => gV ks (cells i) (cells' i)) n
 | .arr t sz len els, .arr t' sz' len' els' => t' = t ∧ sz' = sz ∧ len' = len ∧ ∀ i j, i < len → j < sz → zd (els i j) (els' i j)
 | .lrec st pend, .lrec st' pend' => st' = st ∧ pend' = pend
 | _, _ => False
def GW : OB → Prop
 | .dead => True
 | .arr _ _ len _ => len = 0
 | _ => False
def Sq : OB → Bool
 | .dead => true
 | _ => false
def distinct : List (Option Nat) → Bool
 | [] => true
 | some k :: ks => !ks.contains (some k) && distinct ks
 | none :: ks => distinct ks
def I3 (nb : Nat) : List (Option Nat) → Bool
 | [] => true
 | some k :: ks => Nat.blt k nb && I3 nb ks
 | none :: ks => I3 nb ks
def lk (vars : List (Nat × AV)) (t : Nat) : AV :=
 match vars with
 | [] => .junk
 | (t', x) :: vs => bif Nat.beq t' t then x else lk vs t
def Nu (blks : List (Nat × OB)) (d : Nat → OB) (t : Nat) : OB :=
 match blks with
 | [] => d t
 | (t', x) :: vs => bif Nat.beq t' t then x else Nu vs d t
def sK (σ : zJ) (i : Nat) : List (Nat × AV) → Option Nat
 | [] => some i
 | (t, x) :: vs =>
  match x.top with
  | some k => bif Nat.beq k i then (σ.ev (.tmp t)).strip.top else sK σ i vs
  | none => sK σ i vs
def qJ (σ : zJ) (i : Nat) : List (Nat × AV) → Option Nat
 | [] => none
 | (t, x) :: vs =>
  match x.top with
  | some k => bif Nat.beq k i then (σ.ev (.tmp t)).strip.top else qJ σ i vs
  | none => qJ σ i vs
def Uk (σ : zJ) (vars : List (Nat × AV)) (bl : Nat → OB) (i : Nat) : Nat → Option Nat
 | 0 => none
 | t + 1 =>
  match bl t, σ.bl ((sK σ t vars).getD t) with
  | .box _ n cs, .box _ _ cs' =>
   match (List.range n).findSome? (fun j => match (cs j).top with | some k => bif Nat.beq k i then (cs' j).strip.top else none | none => none) with
   | some k => some k
   | none => Uk σ vars bl i t
  | _, _ => Uk σ vars bl i t
def Q9 (σ : zJ) : Option Nat → Option Nat
 | some k => bif Nat.blt k σ.nb && !Sq (σ.bl k) then some k else none
 | none => none
def Pg (σ : zJ) (vars : List (Nat × AV)) (bl : Nat → OB) (nb : Nat) : List (Option Nat) :=
 (List.range nb).map fun i => bif Sq (bl i) then none else
  match Q9 σ (qJ σ i vars) with
  | some k => some k
  | none =>
   match Q9 σ (Uk σ vars bl i nb) with
   | some k => some k
   | none => Q9 σ (sK σ i vars)
def Iz {α : Type} (p : α → Prop) : List α → Prop
 | [] => True
 | [x] => p x
 | x :: xs => p x ∧ Iz p xs
theorem m6 {α : Type} {p : α → Prop} {l : List α} (h : Iz p l) : ∀ x ∈ l, p x := by
 induction l with
 | nil => simp
 | cons y ys ih =>
  cases ys with
  | nil => intro x hx; rw [List.mem_singleton.1 hx]; exact h
  | cons z zs =>
   intro x hx
   rcases List.mem_cons.1 hx with e | e
   ·rw [e]; exact h.1
   ·exact ih h.2 x e
def WP (n nb : Nat) (vars : List (Nat × AV)) (bl : Nat → OB) : zJ := { n := n, tm := lk vars, nb := nb, bl := bl }
def H8 (nb0 : Nat) (ks : List (Option Nat)) (bl : Nat → OB) : Bool :=
 (List.range nb0).all fun i => Sq (bl i) || match ks[i]? with
  | some (some k) => Nat.beq k i
  | _ => false
def tW {α : Sort u} : List (Option Nat) → (List (Option Nat) → α) → α
 | [], k => k []
 | none :: l, k => tW l fun l' => k (none :: l')
 | some n :: l, k => SJ n fun m => tW l fun l' => k (some m :: l')
theorem Vl {α : Sort u} : ∀ (l : List (Option Nat)) (k : List (Option Nat) → α), tW l k = k l
 | [], _ => rfl
 | none :: l, k => Vl l _
 | some n :: l, k => by
  unfold tW
  rw [WK, Vl]
def nE (ks : List (Option Nat)) (n nb0 : Nat) (σ : zJ) (vars : List (Nat × AV)) (bl : Nat → OB) (nb : Nat) (more : Prop) : Prop :=
 match (Nat.beq σ.n n && (Nat.ble nb0 nb && H8 nb0 ks bl)) && (distinct ks && I3 σ.nb ks) with
 | true => (more ∧ Iz (fun p : Nat × AV => gV ks (σ.ev (.tmp p.1)) p.2) vars) ∧
   vZ (fun i => match ks[i]? with
    | some (some k) => GA ks (σ.bl k) (bl i)
    | _ => GW (bl i)) nb
 | false => False
def vx (n nb0 : Nat) (σ : zJ) (vars : List (Nat × AV)) (bl : Nat → OB) (nb : Nat) (more : Prop) : Prop :=
 tW (Pg σ vars bl nb) fun ks => nE ks n nb0 σ vars bl nb more
section
variable {E : Env} {w : World} {S : Nat → Prop} {ρ : Nat → Own}
theorem nW {ks : List (Option Nat)} {i0 k i : Nat} (h : Rz ks i0 k = some i) : i0 ≤ i ∧ ks[i - i0]? = some (some k) := by
 induction ks generalizing i0 with
 | nil => cases h
 | cons o os ih =>
  simp only [Rz] at h
  have step : Rz os (i0 + 1) k = some i → i0 ≤ i ∧ (o :: os)[i - i0]? = some (some k) := fun h => by
   grind
  split at h
  ·rename_i k'
   cases hb : Nat.beq k' k with
   | true =>
    simp_all
   | false => simp_all
  simp_all
theorem t7 {ks : List (Option Nat)} (h : distinct ks = true) : ∀ (i j k : Nat), ks[i]? = some (some k) → ks[j]? = some (some k) → i = j := by
 induction ks with
 | nil => simp
 | cons o os ih =>
  intro i j k hi hj
  have hos : distinct os = true := by cases o with
   | none => exact h
   | some k => simp only [distinct, Bool.and_eq_true] at h; exact h.2
  have hne : o = some k → ∀ m, os[m]? ≠ some (some k) := fun e m hm => by
   subst e
   simp only [distinct, Bool.and_eq_true, Bool.not_eq_true', List.contains_eq_mem, decide_eq_false_iff_not] at h
   exact h.1 (List.mem_of_getElem? hm)
  grind
theorem Ut {ks : List (Option Nat)} {nb : Nat} (h : I3 nb ks = true) : ∀ k, some k ∈ ks → k < nb := by
 induction ks with
 | nil => simp
 | cons o os ih =>
  intro k hk
  cases o with
  | none =>
   rcases List.mem_cons.1 hk with e | e
   ·cases e
   ·exact ih h k e
  | some k' =>
   simp only [I3, Bool.and_eq_true] at h
   rcases List.mem_cons.1 hk with e | e
   all_goals simp_all
def YW (ks : List (Option Nat)) (bl : Nat → OB) (ρ : Nat → Own) (nb i : Nat) : Own :=
 if i < nb then
  match bl i, ks[i]? with
  | .dead, _ => .dead
  | _, some (some k) => ρ k
  | .arr _ sz _ _, _ => .nila sz
  | _, _ => .dead
 else .none
theorem SX (σ : zJ) (vars : List (Nat × AV)) (bl : Nat → OB) (nb : Nat) : (Pg σ vars bl nb).length = nb := by simp [Pg]
theorem pE {ρ' : Nat → Own} {ks : List (Option Nat)} {x y : AV} {v : Value} (hi : ∀ k i, Rz ks 0 k = some i → ρ' i = ρ k ∨ ρ' i = .dead)
  (hn : ∀ i, ks[i]? = some none → ∃ sz, ρ' i = .nila sz ∨ ρ' i = .dead) (hx : zE w S ρ x v) (h : gV ks x y) : zE w S ρ' y v := by
 unfold gV at h
 split at h
 ·rename_i i o l
  obtain ⟨h1, rfl, rfl⟩ := h
  cases hx
  obtain ⟨sz, e | e⟩ := hn i h1
  ·exact .nsn sz none e
  ·exact .dns e ⟨_, _, rfl⟩
 ·rename_i f sz' len els i o l
  obtain ⟨h1, rfl, rfl, rfl, rfl⟩ := h
  cases hx with
  | xl o cap cvs hle hm hf hc hr =>
   obtain rfl : cap = 0 := hf rfl
   obtain ⟨sz, e | e⟩ := hn i h1
   ·exact .nsn sz o e
   ·exact .dns e ⟨_, _, rfl⟩
 ·exact Xb (KB hi hx) h
end
end Go.Sx
