/- Regions in any order: what only computes or reads comes first, the rest in each order that there is. -/
import Derived.Test.YtdkpceodckdcfaaGreatDoorSxM
set_option linter.unusedSimpArgs false
set_option linter.unusedVariables false
namespace Go.Sx
open Go Go.RowKit
section
variable {P : Program} {G : Cx} {m : Option Nat} {ops : List Oper}
theorem vS {ex : TypeId → (AV → Prop) → Prop} (hex : ∀ t k, ex t k → ∃ r, (∀ k' : AV → Prop, k' r → ex t k') ∧ k r) :
  ∀ (ts : List TypeId) (k : List AV → Prop), xi ex ts k → ∃ r, (∀ k' : List AV → Prop, k' r → xi ex ts k') ∧ k r
 | [], _, h => ⟨[], fun _ h' => h', h⟩
 | t :: ts, k, h => by
  obtain ⟨v, h1, h2⟩ := hex t _ h
  obtain ⟨vs, h3, h4⟩ := vS hex ts _ h2
  exact ⟨v :: vs, fun k' hk => h1 _ (h3 _ hk), h4⟩
theorem uk : ∀ (n : Nat) (t : TypeId) (k : AV → Prop), w6 P n t k → ∃ r, (∀ k' : AV → Prop, k' r → w6 P n t k') ∧ k r
 | 0, _, _, ⟨r, hr⟩ => ⟨r, fun _ h => ⟨r, h⟩, hr⟩
 | n + 1, t, k, h => by
  unfold w6 at h ⊢
  split at h
  ·obtain ⟨x, hx⟩ := h; exact ⟨_, fun _ h => ⟨x, h⟩, hx⟩
  ·obtain ⟨x, hx⟩ := h; exact ⟨_, fun _ h => ⟨x, h⟩, hx⟩
  ·obtain ⟨x, hx⟩ := h; exact ⟨_, fun _ h => ⟨x, h⟩, hx⟩
  ·obtain ⟨f, sz, len, els, hx⟩ := h; exact ⟨_, fun _ h => ⟨f, sz, len, els, h⟩, hx⟩
  ·obtain ⟨vs, h1, h2⟩ := vS (uk n) _ _ h
   exact ⟨_, fun _ h => h1 _ h, h2⟩
  ·obtain ⟨x, hx⟩ := h; exact ⟨_, fun _ h => ⟨x, h⟩, hx⟩
theorem VP {σ : zw} {f : FuncId} {xs : List AV} (h : G.fre f xs = none) : yR G σ f xs = none := by unfold yR; rw [h]
theorem sP {g : Option Bool} {f : FuncId} {xs : List AV} {t : TypeId} {K : AV → Prop} (h : y4 P G g f xs t K) : ∃ r, (∀ k' : AV → Prop, k' r → y4 P G g f xs t k') ∧ K r := by
 unfold y4 at h ⊢
 split at h
 ·rename_i ps r _
  refine ⟨r, fun k' hk' => Wd (fun _ => hk') h, ?_⟩
  cases g with
  | none => exact ((zk _ _).1 h).2
  | some g => exact ((Zr _ _ _).1 h).2
 ·obtain ⟨r, h3, h4, h5⟩ := uk 3 _ _ h
  exact ⟨r, fun k' hk' => h3 _ ⟨h4, hk'⟩, h5⟩
theorem VQ {g : Option Bool} {f : FuncId} {xs : List AV} {t : TypeId} {K : AV → Prop} (h : xY P G g f xs t K) : ∃ r, (∀ k' : AV → Prop, k' r → xY P G g f xs t k') ∧ K r := by
 unfold xY at h ⊢
 split at h
 ·split at h
  ·exact ⟨wO P t, fun k' hk' => hk', h⟩
  ·exact h.elim
 ·exact sP h
def R8 (P : Program) (G : Cx) (g : Bool) (q : Option Bool) (σ : zw) (o : Oper) (x : AV) : Prop :=
 (∃ ps, ZN P σ.bl σ.ev o.op = some (ps, x) ∧ (g = true → ∀ p ∈ ps, p.holds)) ∨
 (∃ t len parts, o.op = .buildSlice t len parts ∧ ¬ (((parts.toList.map fun p => σ.sv p.2).any AV.hasOwn || wz (parts.toList.map (·.2))) = true) ∧
  zG P σ t len (parts.toList.map (·.1)) (parts.toList.map fun p => σ.sv p.2) = some (σ, x) ∧ (g = true → ∀ p ∈ za σ (parts.toList.map (·.2)), p.holds)) ∨
 (∃ f args ts fid nf first nc cap, o.op = .call { callee := .value f, args, argTypes := ts } ∧ σ.sv f = .fn (.func fid) nf first nc cap ∧
  (g = true → ∀ p ∈ (σ.ev f).gprop ++ za σ args.toList, p.holds) ∧ ¬ ((ZM nf first (args.toList.map σ.sv) nc cap).any AV.hasOwn = true) ∧
  G.fre fid (ZM nf first (args.toList.map σ.sv) nc cap) = none ∧ ∀ k' : AV → Prop, k' x → xY P G q fid (ZM nf first (args.toList.map σ.sv) nc cap) o.type k')
def qG (P : Program) (G : Cx) (ops : List Oper) (σ : zw) (o : Oper) (x : AV) : Prop :=
 match o.guard with
 | none => R8 P G true none σ o x
 | some (j, want) => ∃ g x0, Zg ops σ j want = some g ∧ x = .gd g x0 ∧ (((G.conc && !g) = true ∧ x0 = wO P o.type) ∨ ((G.conc && !g) = false ∧ R8 P G g (some g) σ o x0))
def YL (G : Cx) (m : Option Nat) (σ : zw) (o : Oper) : Bool :=
 match o.op with
 | .alloc _ | .box _ _ | .store _ _ _ | .makeSlice _ _ _ | .call { callee := .builtin .append, .. } => false
 | .buildSlice _ _ parts => !(parts.toList.map fun p => σ.sv p.2).any AV.hasOwn
 | .call { callee := .value f, args, .. } =>
  match σ.sv f with
  | .fn (.func fid) nf first nc cap => !(ZM nf first (args.toList.map σ.sv) nc cap).any AV.hasOwn && (G.fre fid (ZM nf first (args.toList.map σ.sv) nc cap)).isNone
  | _ => false
 | op => op.operands.toList.all fun x =>
  match (σ.sv x).top with
  | some k => Nat.blt k (Sv m σ.nb)
  | none => true
def V4 (G : Cx) (ops : List Oper) (σ : zw) (o : Oper) : Bool :=
 match o.guard with
 | some (j, want) =>
  match Zg ops σ j want with
  | some g => G.conc && !g
  | none => false
 | none => false
def Yh (G : Cx) (m : Option Nat) (ops : List Oper) (σ : zw) (o : Oper) : Bool := V4 G ops σ o || YL G m σ o
theorem U5 {σ : zw} {o : Oper} {K : zw → Prop} (he : Yh G m ops σ o = true) (h : YN P G m ops o σ K) : ∃ x, qG P G ops σ o x ∧ K (σ.put o.dst x) := by
 unfold YN at h
 unfold qG
 cases hg : o.guard with
 | none =>
  have he : YL G m σ o = true := by
   unfold Yh V4 at he
   rw [hg] at he
   exact he
  rw [hg] at h
  simp only at h ⊢
  unfold wo at h
  unfold YL at he
  split at h
  ·rename_i ho; simp [ho] at he
  ·rename_i ho; simp [ho] at he
  ·exact h.elim
  ·rename_i ho
   split at h
   ·exact h.elim
   ·rename_i hno
    split at h
    ·rename_i hb
     obtain ⟨rfl, _⟩ := Z3 hb
     rw [zk] at h
     exact ⟨_, .inr (.inl ⟨_, _, _, ho, hno, hb, fun _ => h.1⟩), h.2⟩
    ·exact h.elim
  ·rename_i ho; simp [ho] at he
  ·rename_i f args ts ho
   split at h
   ·rename_i hf
    rw [zk] at h
    obtain ⟨h1, h2⟩ := h
    split at h2
    ·rename_i hown
     simp [ho, hf, hown] at he
    ·rename_i hno
     simp only [ho, hf, Bool.and_eq_true, Option.isNone_iff_eq_none] at he
     rw [VP he.2] at h2
     obtain ⟨r, h3, h5⟩ := VQ h2
     exact ⟨r, .inr (.inr ⟨f, args, ts, _, _, _, _, _, ho, hf, fun _ => h1, hno, he.2, h3⟩), h5⟩
   ·exact h.elim
  ·rename_i ho; simp [ho] at he
  ·split at h
   ·rename_i hd
    rw [zk] at h
    exact ⟨_, .inl ⟨_, hd, fun _ => h.1⟩, h.2⟩
   ·exact h.elim
 | some jw =>
  obtain ⟨j, want⟩ := jw
  rw [hg] at h
  simp only at h ⊢
  split at h
  ·rename_i g hga
   cases hc : G.conc && !g with
   | true =>
    rw [hc] at h
    have hg0 : g = false := by cases g <;> simp_all
    subst hg0
    exact ⟨_, ⟨false, _, hga, rfl, .inl ⟨hc, rfl⟩⟩, h⟩
   | false =>
   rw [hc] at h
   have he : YL G m σ o = true := by
    unfold Yh V4 at he
    rw [hg] at he
    simp only [hga, hc, Bool.false_or] at he
    exact he
   simp only at h
   unfold V6 at h
   unfold YL at he
   split at h
   ·rename_i f args ts ho
    split at h
    ·rename_i hf
     rw [Zr] at h
     obtain ⟨h1, h2⟩ := h
     simp only [ho, hf, Bool.and_eq_true, Bool.not_eq_true', Option.isNone_iff_eq_none] at he
     rw [if_neg (by rw [he.1]; simp)] at h2
     obtain ⟨r, h3, h5⟩ := VQ h2
     exact ⟨_, ⟨g, r, hga, rfl, .inr ⟨hc, .inr (.inr ⟨f, args, ts, _, _, _, _, _, ho, hf, h1, by rw [he.1]; simp, he.2, h3⟩)⟩⟩, h5⟩
    ·exact h.elim
   ·rename_i ho
    split at h
    ·exact h.elim
    ·rename_i hno
     split at h
     ·rename_i hb
      obtain ⟨rfl, _⟩ := Z3 hb
      rw [Zr] at h
      exact ⟨_, ⟨g, _, hga, rfl, .inr ⟨hc, .inr (.inl ⟨_, _, _, ho, hno, hb, h.1⟩)⟩⟩, h.2⟩
     ·exact h.elim
   ·split at h
    ·rename_i hd
     rw [Zr] at h
     exact ⟨_, ⟨g, _, hga, rfl, .inr ⟨hc, .inl ⟨_, hd, h.1⟩⟩⟩, h.2⟩
    ·exact h.elim
  ·exact h.elim
theorem UV {σ : zw} {o : Oper} {x : AV} {K : zw → Prop} (hr : qG P G ops σ o x) (h : K (σ.put o.dst x)) : YN P G m ops o σ K := by
 unfold qG at hr
 unfold YN
 cases hg : o.guard with
 | none =>
  rw [hg] at hr
  simp only at hr ⊢
  rcases hr with ⟨ps, h1, h2⟩ | ⟨tb, lb, parts, hob, hnob, heb, hgb⟩ | ⟨f, args, ts, fid, nf, first, nc, cap, ho, hf, h1, h2, hfr, h3⟩
  ·unfold wo
   split
   ·rename_i ho; rw [ho] at h1; simp [ZN, zf] at h1
   ·rename_i ho; rw [ho] at h1; simp [ZN, zf] at h1
   ·rename_i ho; rw [ho] at h1; simp [ZN, zf] at h1
   ·rename_i ho; rw [ho] at h1; simp [ZN, zf] at h1
   ·rename_i ho; rw [ho] at h1; simp [ZN, zf] at h1
   ·rename_i ho; rw [ho] at h1; simp [ZN, zf] at h1
   ·rename_i ho; rw [ho] at h1; simp [ZN, zf, tA] at h1
   ·rw [h1]
    simp only
    rw [zk]
    exact ⟨h2 rfl, h⟩
  ·simp only [wo, hob, if_neg hnob, heb, zk]
   exact ⟨hgb rfl, h⟩
  ·simp only [wo, ho, hf, zk, if_neg h2, VP hfr]
   exact ⟨h1 rfl, h3 _ h⟩
 | some jw =>
  obtain ⟨j, want⟩ := jw
  rw [hg] at hr
  simp only at hr ⊢
  obtain ⟨g, x0, hga, rfl, hr⟩ := hr
  rw [hga]
  simp only
  rcases hr with ⟨hc, rfl⟩ | ⟨hc, hr⟩
  ·rw [hc]
   have hg0 : g = false := by cases g <;> simp_all
   subst hg0
   exact h
  rw [hc]
  simp only
  rcases hr with ⟨ps, h1, h2⟩ | ⟨tb, lb, parts, hob, hnob, heb, hgb⟩ | ⟨f, args, ts, fid, nf, first, nc, cap, ho, hf, h1, h2, hfr, h3⟩
  ·unfold V6
   split
   ·rename_i ho; rw [ho] at h1; simp [ZN, zf] at h1
   ·rename_i ho; rw [ho] at h1; simp [ZN, zf] at h1
   ·rw [h1]
    simp only
    rw [Zr]
    exact ⟨h2, h⟩
  ·simp only [V6, hob, if_neg hnob, heb, Zr]
   exact ⟨hgb, h⟩
  ·simp only [V6, ho, hf, Zr, if_neg h2]
   exact ⟨h1, h3 _ h⟩
theorem Zu.guard {σ σ' : zw} {d : Option Tmp} (h : Zu m d σ σ') {j : Nat} {want : Bool} (hd : ∀ t, d = some t → (ops[j]?).bind (·.dst) ≠ some t) :
  Zg ops σ' j want = Zg ops σ j want := by
 unfold Zg
 cases ho : ops[j]? with
 | none => rfl
 | some o =>
  simp only
  cases hod : o.dst with
  | none => rfl
  | some t =>
   simp only
   have hne : d ≠ some t := fun e => hd t e (by rw [ho, Option.bind_some, hod])
   rw [h.n, h.tm t hne]
theorem RU {σ σ' : zw} {o : Oper} {x : AV} {d : Option Tmp} (hG : Zu m d σ σ') (h1 : ∀ t, d = some t → t ∉ o.looksAt ops.toArray) (he : Yh G m ops σ o = true) (hr : qG P G ops σ o x) :
  qG P G ops σ' o x ∧ Yh G m ops σ' o = true := by
 have hl := WQ h1
 have hev : ∀ y ∈ o.op.operands, σ'.ev y = σ.ev y := fun y hy => hG.ev (hl y hy)
 have hsv : ∀ y ∈ o.op.operands, σ'.sv y = σ.sv y := fun y hy => Za (hev y hy)
 have key : ∀ g q x, YL G m σ o = true → R8 P G g q σ o x → R8 P G g q σ' o x := by
  rintro g q x he (⟨ps, h1, h2⟩ | ⟨tb, lb, parts, hob, hnob, heb, hgb⟩ | ⟨f, args, ts, fid, nf, first, nc, cap, ho, hf, h1, h2, hfr, h3⟩)
  ·refine .inl ⟨ps, ?_, h2⟩
   rw [← h1]
   refine X5 hev fun y hy k hk => hG.bl k ?_
   have hall : (o.op.operands.toList.all fun x => match (σ.sv x).top with | some k => Nat.blt k (Sv m σ.nb) | none => true) = true := by
    unfold YL at he
    split at he
    ·cases he
    ·cases he
    ·cases he
    ·cases he
    ·cases he
    ·rename_i ho; rw [ho] at h1; simp [ZN, zf] at h1
    ·rename_i ho; rw [ho] at h1; simp [ZN, zf] at h1
    ·exact he
   have := List.all_eq_true.1 hall y (Array.mem_toList_iff.2 hy)
   rw [show (σ.sv y).top = some k from hk] at this
   exact Nat.le_of_ble_eq_true this
  ·have hin : ∀ p ∈ parts.toList, p.2 ∈ o.op.operands := fun p hp => by rw [hob]; simp only [Op.operands, List.mem_toArray, List.mem_map]; exact ⟨p, hp, rfl⟩
   have e1 : (parts.toList.map fun p => σ'.sv p.2) = parts.toList.map fun p => σ.sv p.2 := List.map_congr_left fun p hp => hsv _ (hin p hp)
   have e2 : za σ' (parts.toList.map (·.2)) = za σ (parts.toList.map (·.2)) := Z5 fun y hy => by
    obtain ⟨p, hp, rfl⟩ := List.mem_map.1 hy
    exact hev _ (hin p hp)
   exact .inr (.inl ⟨tb, lb, parts, hob, by rw [e1]; exact hnob, by rw [e1]; exact (Z3 heb).2 _, by rw [e2]; exact hgb⟩)
  ·have hin : ∀ y ∈ args.toList, y ∈ o.op.operands := fun y hy => by rw [ho]; simp only [Op.operands, Call.operands, Array.mem_append]; exact .inr (Array.mem_toList_iff.1 hy)
   have e1 := hev f (by rw [ho]; simp [Op.operands, Call.operands])
   have e2 : args.toList.map σ'.sv = args.toList.map σ.sv := List.map_congr_left fun y hy => hsv _ (hin y hy)
   have e3 : za σ' args.toList = za σ args.toList := Z5 fun y hy => hev _ (hin y hy)
   exact .inr (.inr ⟨f, args, ts, fid, nf, first, nc, cap, ho, by rw [Za e1]; exact hf, by rw [e1, e3]; exact h1, by rw [e2]; exact h2, by rw [e2]; exact hfr, by rw [e2]; exact h3⟩)
 have hgd : ∀ j want, o.guard = some (j, want) → Zg ops σ' j want = Zg ops σ j want := fun j want hg => hG.guard (wH h1 hg)
 have hoff : V4 G ops σ' o = V4 G ops σ o := by
  unfold V4
  cases hg : o.guard with
  | none => rfl
  | some jw => obtain ⟨j, want⟩ := jw; simp only [hgd j want hg]
 constructor
 ·unfold qG at hr ⊢
  cases hg : o.guard with
  | none =>
   rw [hg] at hr
   refine key _ _ _ ?_ hr
   unfold Yh V4 at he
   rw [hg] at he
   exact he
  | some jw =>
   obtain ⟨j, want⟩ := jw
   rw [hg] at hr
   obtain ⟨g, x0, h2, h3, h4⟩ := hr
   refine ⟨g, x0, by rw [hgd j want hg]; exact h2, h3, ?_⟩
   rcases h4 with h4 | ⟨hc, h4⟩
   ·exact .inl h4
   ·refine .inr ⟨hc, key _ _ _ ?_ h4⟩
    unfold Yh V4 at he
    rw [hg] at he
    simp only [h2, hc, Bool.false_or] at he
    exact he
 ·have hall : (o.op.operands.toList.all fun x => match (σ.sv x).top with | some k => Nat.blt k (Sv m σ.nb) | none => true) = true →
    (o.op.operands.toList.all fun x => match (σ'.sv x).top with | some k => Nat.blt k (Sv m σ'.nb) | none => true) = true := fun h => by
   rw [List.all_eq_true] at h ⊢
   intro y hy
   have := h y hy
   rw [hsv y (Array.mem_toList_iff.1 hy)]
   revert this
   split
   ·intro hk
    exact Nat.ble_eq_true_of_le (Nat.le_trans (Nat.le_of_ble_eq_true hk) (S5 hG.nb))
   ·exact fun _ => rfl
  unfold Yh at he ⊢
  rw [hoff]
  cases ho1 : V4 G ops σ o with
  | true => rfl
  | false =>
  rw [ho1, Bool.false_or] at he
  rw [Bool.false_or]
  unfold YL at he ⊢
  split at he
  ·cases he
  ·cases he
  ·cases he
  ·cases he
  ·cases he
  ·rename_i parts ho
   have e1 : (parts.toList.map fun p => σ'.sv p.2) = parts.toList.map fun p => σ.sv p.2 := List.map_congr_left fun p hp => hsv _ (by rw [ho]; simp only [Op.operands, List.mem_toArray, List.mem_map]; exact ⟨p, hp, rfl⟩)
   rw [e1]
   exact he
  ·rename_i f args ts ho
   have hin : ∀ y ∈ args.toList, y ∈ o.op.operands := fun y hy => by rw [ho]; simp only [Op.operands, Call.operands, Array.mem_append]; exact .inr (Array.mem_toList_iff.1 hy)
   have e1 := hev f (by rw [ho]; simp [Op.operands, Call.operands])
   have e2 : args.toList.map σ'.sv = args.toList.map σ.sv := List.map_congr_left fun y hy => hsv _ (hin y hy)
   rw [Za e1, e2]
   exact he
  ·exact hall he
end
end Go.Sx

namespace Go.Sx
universe u
open Go Go.RowKit
inductive rm (ops : List Oper) : Nat → Nat → Prop where
 | edge {i j : Nat} {o : Oper} {e : Edge} (ho : ops[j]? = some o) (he : e ∈ o.after) (hb : Region.binds .any e = true) (hi : e.on = i) : rm ops i j
 | step {i j : Nat} {o : Oper} {e : Edge} (ho : ops[j]? = some o) (he : e ∈ o.after) (hb : Region.binds .any e = true) (hi : rm ops i e.on) : rm ops i j
def Ys (acc : List Nat) : List Edge → Nat
 | [] => 0
 | e :: es => bif Region.binds .any e then (1 <<< e.on) ||| acc.getD e.on 0 ||| Ys acc es else Ys acc es
def Uh : List Oper → List Nat → List Nat
 | [], acc => acc
 | o :: os, acc => Uh os (acc ++ [Ys acc o.after.toList])
def Closed (ops : List Oper) (L : Array Bool) : Prop :=
 ∀ j o, ops[j]? = some o → L.getD j false = true → ∀ e ∈ o.after, Region.binds .any e = true → L.getD e.on false = true
def stepJ (P : Program) (G : Cx) (m : Option Nat) (ops : List Oper) (late : Bool) (o : Oper) (σ : zw) (k : zw → Prop) : Prop :=
 match late with
 | true => vG P G ops o σ k
 | false => YN P G m ops o σ k
def xK (P : Program) (G : Cx) (m : Option Nat) (ops : List Oper) (late : Nat → Bool) : Nat → Array Bool → zw → (zw → Prop) → Prop
 | 0, L, σ, k => Region.ready .any ops.toArray L = [] ∧ k σ
 | f + 1, L, σ, k => (Region.ready .any ops.toArray L = [] → k σ) ∧
   ∀ j ∈ Region.ready .any ops.toArray L, ∀ o, ops[j]? = some o → stepJ P G m ops (late j) o σ fun σ' => xK P G m ops late f (L.setIfInBounds j true) σ' k
def PC (ops : List Oper) (A : List Nat) (late : Nat → Bool) (L : Array Bool) (i : Nat) (oi : Oper) : Bool :=
 (List.range ops.length).all fun j => j == i || (A.getD j 0).testBit i || L.getD j true ||
  match ops[j]? with
  | some oj => !late j && oi.apart ops.toArray oj
  | none => true
def rD (G : Cx) (m : Option Nat) (ops : List Oper) (A : List Nat) (late : Nat → Bool) (L : Array Bool) (σ : zw) (i : Nat) : Bool :=
 match ops[i]? with
 | some o => Yh G m ops σ o && PC ops A late L i o
 | none => false
def vx (rs : List Nat) (p : Nat → Prop) : Prop :=
 match rs with
 | [] => True
 | [i] => p i
 | i :: rs => p i ∧ vx rs p
def xW (P : Program) (G : Cx) (m : Option Nat) (ops : List Oper) (A : List Nat) (late : Nat → Bool) : Nat → Array Bool → zw → (zw → Prop) → Prop
 | 0, L, σ, k =>
  match Region.ready .any ops.toArray L with
  | [] => k σ
  | _ => False
 | f + 1, L, σ, k =>
  match Region.ready .any ops.toArray L with
  | [] => k σ
  | rs =>
   match rs.find? (rD G m ops A late L σ) with
   | some i =>
    match ops[i]? with
    | some o => YN P G m ops o σ fun σ' => xW P G m ops A late f (L.setIfInBounds i true) σ' k
    | none => False
   | none => vx rs fun i =>
    match ops[i]? with
    | some o => stepJ P G m ops (late i) o σ fun σ' => xW P G m ops A late f (L.setIfInBounds i true) σ' k
    | none => False
section
variable {P : Program} {G : Cx} {m : Option Nat} {ops : List Oper} {late : Nat → Bool}
theorem Yg {acc : List Nat} {i : Nat} : ∀ (es : List Edge), (Ys acc es).testBit i = true → ∃ e ∈ es, Region.binds .any e = true ∧ (e.on = i ∨ (acc.getD e.on 0).testBit i = true)
 | [], h => by simp [Ys] at h
 | e :: es, h => by
  unfold Ys at h
  cases hb : Region.binds .any e with
  | false =>
   rw [hb] at h
   obtain ⟨e', h1, h2⟩ := Yg es h
   exact ⟨e', List.mem_cons_of_mem _ h1, h2⟩
  | true =>
   rw [hb] at h
   simp only [cond_true, Nat.testBit_or, Bool.or_eq_true] at h
   rcases h with (h | h) | h
   ·refine ⟨e, List.mem_cons_self, hb, .inl ?_⟩
    rw [Nat.one_shiftLeft, Nat.testBit_two_pow] at h
    exact of_decide_eq_true h
   ·exact ⟨e, List.mem_cons_self, hb, .inr h⟩
   ·obtain ⟨e', h1, h2⟩ := Yg es h
    exact ⟨e', List.mem_cons_of_mem _ h1, h2⟩
theorem vF : ∀ (os : List Oper) (acc : List Nat), (∀ j, os[j]? = ops[acc.length + j]?) → (∀ j i, (acc.getD j 0).testBit i = true → rm ops i j) →
  ∀ j i, ((Uh os acc).getD j 0).testBit i = true → rm ops i j
 | [], _, _, h, j, i, hi => h j i hi
 | o :: os, acc, ho, h, j, i, hi => by
  refine vF os (acc ++ [Ys acc o.after.toList]) (fun j => ?_) (fun j i hi => ?_) j i hi
  ·have := ho (j + 1)
   simpa [Nat.add_assoc, Nat.add_comm 1 j] using this
  ·by_cases hj : j < acc.length
   ·rw [List.getD_eq_getElem?_getD, List.getElem?_append_left hj, ← List.getD_eq_getElem?_getD] at hi
    exact h j i hi
   ·by_cases hj' : j = acc.length
    ·subst hj'
     rw [List.getD_eq_getElem?_getD, List.getElem?_append_right (Nat.le_refl _)] at hi
     simp only [Nat.sub_self, List.getElem?_cons_zero, Option.getD_some] at hi
     obtain ⟨e, h1, h2, h3⟩ := Yg _ hi
     have ho' : ops[acc.length]? = some o := by simpa using (ho 0).symm
     rcases h3 with h3 | h3
     ·exact .edge ho' (Array.mem_toList_iff.1 h1) h2 h3
     ·exact .step ho' (Array.mem_toList_iff.1 h1) h2 (h _ _ h3)
    ·rw [List.getD_eq_getElem?_getD, List.getElem?_eq_none (by simp; omega)] at hi
     simp at hi
theorem ta {L : Array Bool} (hL : Closed ops L) {i j : Nat} (h : rm ops i j) {o : Oper} (ho : ops[j]? = some o)
  (hj : ∀ e ∈ o.after, Region.binds .any e = true → L.getD e.on false = true) : L.getD i false = true := by
 induction h generalizing o with
 | edge ho' he hb hi =>
  rw [ho'] at ho
  cases ho
  exact hi ▸ hj _ he hb
 | step ho' he hb hi ih =>
  rw [ho'] at ho
  cases ho
  have h1 := hj _ he hb
  rename_i e
  cases ho2 : ops[e.on]? with
  | none => cases hi with
   | edge h => rw [ho2] at h; cases h
   | step h => rw [ho2] at h; cases h
  | some o2 => exact ih ho2 (hL _ _ ho2 h1)
theorem XV {L : Array Bool} {i : Nat} (h : L.getD i true = false) : L.getD i false = false := by
 rcases Nat.lt_or_ge i L.size with h' | h'
 ·simp [h'] at h ⊢; exact h
 ·simp [Array.getElem?_eq_none h'] at h
theorem Closed.set {L : Array Bool} (hL : Closed ops L) {j : Nat} (hj : j ∈ Region.ready .any ops.toArray L) : Closed ops (L.setIfInBounds j true) := by
 obtain ⟨hun, oj, hoj, hall⟩ := mem_ready.1 hj
 rw [List.getElem?_toArray] at hoj
 have keep : ∀ n, L.getD n false = true → (L.setIfInBounds j true).getD n false = true := fun n h => by
  by_cases e : j = n
  ·subst e
   rw [XV hun] at h
   cases h
  ·simpa [Array.getD_eq_getD_getElem?, Array.getElem?_setIfInBounds, e] using h
 intro n o ho hn e he hb
 by_cases ejn : j = n
 ·subst ejn
  rw [hoj] at ho
  cases ho
  exact keep _ (hall e he hb)
 ·refine keep _ (hL n o ho ?_ e he hb)
  simpa [Array.getD_eq_getD_getElem?, Array.getElem?_setIfInBounds, ejn] using hn
theorem first {i : Nat} {oi : Oper} {x : AV} {k : zw → Prop} (hi : ops[i]? = some oi) : ∀ (f : Nat) (L : Array Bool) (σ : zw), Closed ops L →
  (∀ j oj, ops[j]? = some oj → j ≠ i → L.getD j true = false → ¬ rm ops i j → late j = false ∧ oi.apart ops.toArray oj = true) → i ∈ Region.ready .any ops.toArray L →
  Yh G m ops σ oi = true → qG P G ops σ oi x → xK P G m ops late f (L.setIfInBounds i true) (σ.put oi.dst x) k → xK P G m ops late (f + 1) L σ k := by
 intro f
 have self : ∀ (f : Nat) (L : Array Bool) (σ : zw), qG P G ops σ oi x → xK P G m ops late f (L.setIfInBounds i true) (σ.put oi.dst x) k →
   stepJ P G m ops (late i) oi σ fun σ' => xK P G m ops late f (L.setIfInBounds i true) σ' k := fun f L σ hr H => by
  cases late i with
  | true => exact Vq (m := m) (UV hr H)
  | false => exact UV hr H
 induction f with
 | zero =>
  intro L σ hL hs hr he hres H
  refine ⟨fun h => (by rw [h] at hr; cases hr), fun j hj o ho => ?_⟩
  by_cases hji : j = i
  ·subst hji
   rw [hi] at ho; cases ho
   exact self 0 L σ hres H
  ·have := ready_mono hj hji
   rw [H.1] at this
   cases this
 | succ f ih =>
  intro L σ hL hs hr he hres H
  refine ⟨fun h => (by rw [h] at hr; cases hr), fun j hj o ho => ?_⟩
  by_cases hji : j = i
  ·subst hji
   rw [hi] at ho; cases ho
   exact self (f + 1) L σ hres H
  ·have h1 := H.2 j (ready_mono hj hji) o ho
   obtain ⟨hjun, oj, hoj, hall⟩ := mem_ready.1 hj
   rw [List.getElem?_toArray, ho] at hoj
   cases hoj
   have hiun := (mem_ready.1 hr).1
   have hnot : ¬ rm ops i j := fun hA => by
    have := ta hL hA ho hall
    rw [XV hiun] at this
    cases this
   obtain ⟨hlate, hap⟩ := hs j o ho hji hjun hnot
   obtain ⟨a1, a2, a3⟩ := Oper.apart_spec hap
   rw [hlate] at h1 ⊢
   have h2 := TB a1 a2 h1
   refine Xp (fun σ' h => ?_) h2
   obtain ⟨hG, hA⟩ := h
   obtain ⟨r1, r2⟩ := RU hG a3 he hres
   refine ih _ σ' (hL.set hj) (fun n on hn hni hnun hnA => ?_) (ready_mono hr (Ne.symm hji)) r2 r1 ?_
   ·refine hs n on hn hni ?_ hnA
    by_cases hjn : j = n
    ·subst hjn; exact hjun
    ·rw [getD_set_ne true hjn] at hnun; exact hnun
   ·rw [Array.setIfInBounds_comm _ _ hji]
    exact hA
theorem VX (rs : List Nat) (p : Nat → Prop) : vx rs p ↔ ∀ i ∈ rs, p i := by
 induction rs with
 | nil => simp [vx]
 | cons i rs ih =>
  cases rs with
  | nil => simp [vx]
  | cons j rs => rw [show vx (i :: j :: rs) p = (p i ∧ vx (j :: rs) p) from rfl, ih]; simp
theorem wM (hO : zO P G) {σ : zw} {f : FuncId} {xs : List AV} {k k' : zw → AV → Prop} (hk : ∀ σ x, k σ x → k' σ x) (h : XR G σ f xs k) : XR G σ f xs k' := by
 unfold XR at h ⊢
 split at h
 ·rename_i T hT
  exact (hO.own f T hT).mono _ _ _ _ _ (fun nb bl x h => hk _ _ h) h
 ·exact h
theorem Um (hO : zO P G) {σ : zw} {f : FuncId} {xs : List AV} {t : TypeId} {d : Option Tmp} {K K' : zw → Prop} (hk : ∀ σ, K σ → K' σ) (h : xF P G σ f xs t d K) : xF P G σ f xs t d K' := by
 unfold xF at h ⊢
 split at h
 ·rename_i h1
  rw [if_pos h1]
  split at h
  ·rename_i T hT
   exact (hO.own f T hT).mono _ _ _ _ _ (fun nb bl x h => hk _ h) h
  ·split at h
   ·exact zq (hk _) h
   split at h
   ·rename_i h2
    rw [if_pos h2]
    exact Zd (fun r hr => hk _ hr) h
   ·rename_i h2
    rw [if_neg h2]
    split at h
    ·split at h
     ·exact h.elim
     ·rename_i h3
      rw [if_neg h3]
      split at h
      ·exact zq (hk _) h
      ·exact Zd (fun r hr => hk _ hr) h
    ·exact h
 ·rename_i h1
  rw [if_neg h1]
  split at h
  ·exact zq (hk _) h
  split at h
  ·exact wM hO (fun _ _ h => hk _ h) h
  ·exact Zd (fun r hr => hk _ hr) h
theorem Ta (hO : zO P G) {g : Bool} {σ : zw} {o : Oper} {K K' : zw → Prop} (hk : ∀ σ, K σ → K' σ) (h : V2 P G g σ o K) : V2 P G g σ o K' := by
 unfold V2 at h ⊢
 split at h
 ·split at h
  ·split at h
   ·rw [zT] at h ⊢
    exact ⟨fun hg => zq (wM hO fun _ _ h => hk _ h) (h.1 hg), fun hg => hk _ (h.2 hg)⟩
   ·exact Xa hk h
  ·split at h
   ·rename_i T hT
    rw [zT] at h ⊢
    exact ⟨fun hg => zq (hO.mono _ T hT _ _ _ _ _ fun nb bl x h => hk _ h) (h.1 hg), fun hg => hk _ (h.2 hg)⟩
   ·exact h.elim
  ·exact Xa hk h
 ·exact Xa hk h
theorem rC (hO : zO P G) {σ : zw} {o : Oper} {K K' : zw → Prop} (hk : ∀ σ, K σ → K' σ) (h : qb P G σ o K) : qb P G σ o K' := by
 unfold qb at h ⊢
 split at h
 ·split at h
  ·exact hk _ h
  ·exact h
 ·split at h
  ·exact zq (hk _) h
  ·exact h
 ·split at h
  ·split at h
   ·exact zq (hk _) h
   ·split at h
    ·exact zq (hk _) h
    ·exact h
  ·exact h.elim
 ·split at h
  ·exact zq (hk _) h
  split at h
  ·split at h
   ·exact zq (hk _) h
   ·exact h
  ·exact h
 ·split at h
  ·exact zq (hk _) h
  ·exact h
 ·split at h
  ·exact zq (Um hO hk) h
  ·split at h
   ·rename_i T hT
    exact zq (hO.mono _ T hT _ _ _ _ _ fun nb bl x h => hk _ h) h
   ·exact h
  ·exact h
 ·split at h
  ·split at h
   ·rename_i htt
    rw [if_pos htt]
    split at h
    ·exact zq (hk _) h
    ·split at h
     ·exact zq (hk _) h
     ·exact h
   ·rename_i htt
    rw [if_neg htt]
    split at h
    ·exact zq (hk _) h
    ·exact h.elim
  ·exact h
 ·split at h
  ·exact zq (hk _) h
  ·exact h
theorem Vu (hO : zO P G) {σ : zw} {o : Oper} {K K' : zw → Prop} (hk : ∀ σ, K σ → K' σ) (h : vG P G ops o σ K) : vG P G ops o σ K' := by
 unfold vG at h ⊢
 split at h
 ·exact rC hO hk h
 ·split at h
  ·rename_i g _
   cases hc : G.conc && !g with
   | true => rw [hc] at h; exact hk _ h
   | false => rw [hc] at h; exact Ta hO hk h
  ·exact h
theorem vu (hO : zO P G) {l : Bool} {σ : zw} {o : Oper} {K K' : zw → Prop} (hk : ∀ σ, K σ → K' σ) (h : stepJ P G m ops l o σ K) : stepJ P G m ops l o σ K' := by
 cases l with
 | true => exact Vu hO hk h
 | false => exact Xp hk h
theorem Rl {l : Bool} {σ : zw} {o : Oper} {K : zw → Prop} (h : stepJ P G m ops l o σ K) : vG P G ops o σ K := by
 cases l with
 | true => exact h
 | false => exact Vq h
theorem SA {A : List Nat} {L : Array Bool} {i : Nat} {oi : Oper} (hA : ∀ j i, (A.getD j 0).testBit i = true → rm ops i j) (h : PC ops A late L i oi = true) :
  ∀ j oj, ops[j]? = some oj → j ≠ i → L.getD j true = false → ¬ rm ops i j → late j = false ∧ oi.apart ops.toArray oj = true := fun j oj hj hji hun hno => by
 have hlt : j < ops.length := (List.getElem?_eq_some_iff.1 hj).1
 have := List.all_eq_true.1 h j (List.mem_range.2 hlt)
 simp only [hj, Bool.or_eq_true, Bool.and_eq_true, Bool.not_eq_true'] at this
 rcases this with ((h1 | h1) | h1) | h1
 ·exact absurd (by simpa using h1) hji
 ·exact absurd (hA _ _ h1) hno
 ·rw [hun] at h1; cases h1
 ·exact h1
theorem wS (hO : zO P G) {A : List Nat} (hA : ∀ j i, (A.getD j 0).testBit i = true → rm ops i j) {k : zw → Prop} : ∀ (f : Nat) (L : Array Bool) (σ : zw), Closed ops L →
  xW P G m ops A late f L σ k → xK P G m ops late f L σ k
 | 0, L, σ, _, h => by
  unfold xW at h
  split at h
  ·rename_i hr; exact ⟨hr, h⟩
  ·exact h.elim
 | f + 1, L, σ, hL, h => by
  unfold xW at h
  split at h
  ·rename_i hr
   exact ⟨fun _ => h, fun j hj => by rw [hr] at hj; cases hj⟩
  ·rename_i hne
   split at h
   ·rename_i i hf
    have hmem := List.mem_of_find?_eq_some hf
    have he := List.find?_some hf
    split at h
    ·rename_i o ho
     unfold rD at he
     rw [ho] at he
     simp only [Bool.and_eq_true] at he
     obtain ⟨x, h1, h2⟩ := U5 he.1 h
     exact first ho f L σ hL (SA hA he.2) hmem he.1 h1 (wS hO hA f _ _ (hL.set hmem) h2)
    ·exact h.elim
   ·refine ⟨fun hr => (hne hr).elim, fun j hj o ho => ?_⟩
    have := (VX _ _).1 h j hj
    rw [ho] at this
    exact vu hO (fun σ' h' => wS hO hA f _ _ (hL.set hj) h') this
section
variable {E : Env} {r : Option Nat} {n : Nat}
theorem Xj (hO : zO P E.G) (hY : Zc P E) {Q : Exit → Act → World → Prop} {k : zw → Prop} (hK : ∀ σ' a' w', k σ' → St E σ' a' w' → Q .normal a' w') : ∀ (f : Nat) (L : Array Bool) {σ : zw} {a : Act} {w : World},
  xK P E.G m ops late f L σ k → St E σ a w → wpAnyIn (FW r) n P .any ops.toArray Q f L a w
 | 0, _, _, _, _, h, hst => ⟨h.1, hK _ _ _ h.2 hst⟩
 | f + 1, L, σ, a, w, h, hst => by
  refine ⟨fun hr => hK _ _ _ (h.1 hr) hst, fun j hj => ?_⟩
  obtain ⟨_, o, ho, _⟩ := mem_ready.1 hj
  have ho' := ho
  rw [List.getElem?_toArray] at ho'
  have hv := Rl (h.2 j hj o ho')
  have key : ∀ σ' a' w', xK P E.G m ops late f (L.setIfInBounds j true) σ' k → St E σ' a' w' → wpAnyIn (FW r) n P .any ops.toArray Q f (L.setIfInBounds j true) a' w' :=
   fun σ' a' w' hv' hst' => Xj hO hY hK f _ hv' hst'
  unfold wpOpIn
  rw [ho]
  simp only [vG] at hv ⊢
  cases hg : o.guard with
  | none =>
   rw [hg] at hv
   simp only [Region.wanted, hg, if_true]
   exact VS hO hY hv hst key
  | some jw =>
   obtain ⟨j', want⟩ := jw
   rw [hg] at hv
   simp only at hv
   split at hv
   ·rename_i g hga
    have hw : Region.wanted o (yielded ops.toArray a.tmps) = g := by
     obtain ⟨S, ρ, _, hF, _⟩ := hst
     simp only [Region.wanted, hg]
     exact we hga hF
    obtain ⟨h1, h2⟩ := vN (r := r) (n := n) (Q := Q) hO hY hv hst key
    rw [hw]
    cases g with
    | true => rw [if_pos rfl]; exact h1 rfl
    | false => rw [if_neg (by simp)]; exact ⟨fun _ _ => trivial, h2 rfl⟩
   ·exact hv.elim
theorem St.drew {σ : zw} {a : Act} {w : World} (h : St E σ a w) : St E σ a { w with drawn := w.drawn + 1 } := by
 obtain ⟨S, ρ, hM, hF, hD⟩ := h
 have hS : ∀ b, S b → S b ∧ ({ w with drawn := w.drawn + 1 } : World).heap[b]? = w.heap[b]? := fun b hb => ⟨hb, rfl⟩
 exact ⟨S, ρ, ⟨⟨hM.fr.os, hM.fr.tape, hM.fr.output, hM.fr.size, hM.fr.block, Nat.le_trans hM.fr.drawn (ub w 1)⟩, hM.sb, hM.sup, hM.sub, hM.glob, hM.hi,
  fun k hk => (hM.ok k hk).mono hS (zX.refl _) fun _ _ => rfl, hM.own, hM.dis, hM.b0, hM.nbz, hM.ole⟩, hF.mono hS (zX.refl _), hD.mono hS⟩
def W8 (j : Nat) : List Oper → List Nat → Bool
 | o :: os, a :: as => (a.testBit j || (match o.op with | .move _ => true | _ => false)) && W8 j os as
 | _, _ => true
def Uv (m : Nat) : Nat → List Oper → Bool
 | 0, _ => true
 | _, [] => true
 | j + 1, o :: os => (m.testBit 0 || (match o.op with | .move _ => true | _ => false)) && Uv (m / 2) j os
def tf (G : Cx) (ops : List Oper) (A : List Nat) (j : Nat) : Bool :=
 match ops[j]? with
 | some o =>
  match o.op with
  | .store _ _ _ => true
  | .call { callee := .value (.func f), .. } => (G.own f).isSome || (Nat.beq ((A.getD j 0) &&& (2 ^ j - 1)) (2 ^ j - 1) && W8 j (ops.drop (j + 1)) (A.drop (j + 1)))
  | .call { callee := .builtin .append, .. } => Uv (A.getD j 0) j ops
  | _ => Nat.beq ((A.getD j 0) &&& (2 ^ j - 1)) (2 ^ j - 1) && W8 j (ops.drop (j + 1)) (A.drop (j + 1))
 | none => false
def PZ (o : Oper) : Bool :=
 match o.op with
 | .call { callee := .builtin .append, .. } => true
 | _ => false
def uW {α : Sort u} : Nat → (Nat → α) → α
 | 0, k => k 0
 | n + 1, k => uW n fun m => k (Nat.succ m)
theorem XY {α : Sort u} : ∀ (n : Nat) (k : Nat → α), uW n k = k n
 | 0, _ => rfl
 | n + 1, k => XY n _
def Pj (σ : zw) : Nat := bif rY (σ.bl (σ.nb - 1)) then σ.nb - 1 else σ.nb
def wY (P : Program) (G : Cx) (ops : List Oper) (σ : zw) (k : zw → Prop) : Prop :=
 match ops.any PZ with
 | true => uW (Pj σ) fun m => xW P G (some m) ops (Uh ops []) (tf G ops (Uh ops [])) ops.length (Array.replicate ops.length false) σ k
 | false => xW P G none ops (Uh ops []) (tf G ops (Uh ops [])) ops.length (Array.replicate ops.length false) σ k
theorem tg (hO : zO P E.G) (hY : Zc P E) {id : Nat} {ops : Array Oper} {σ : zw} {a : Act} {w : World} {k : zw → Prop} {Q : Exit → Act → World → Prop} (hm : P.follows .mixedOrders = true) (hv : wY P E.G ops.toList σ k) (hst : St E σ a w)
  (hK : ∀ σ' a' w', k σ' → St E σ' a' w' → Q .normal a' w') : (Code.region id ops true).wpIn (FW r) n P Q a w := by
 refine wpIn_region_any hm ?_
 obtain ⟨m, hv⟩ : ∃ m, xW P E.G m ops.toList (Uh ops.toList []) (tf E.G ops.toList (Uh ops.toList [])) ops.toList.length (Array.replicate ops.toList.length false) σ k := by
  unfold wY at hv
  split at hv
  ·rw [XY] at hv; exact ⟨_, hv⟩
  ·exact ⟨_, hv⟩
 have h1 := wS hO (vF ops.toList [] (by simp) fun j i h => by simp at h) _ _ _ (fun j o _ hL => by simp [Array.getD_eq_getD_getElem?, Array.getElem?_replicate] at hL; split at hL <;> simp at hL) hv
 have := Xj hO hY (r := r) (n := n) (Q := Q) hK _ _ h1 hst.drew
 simpa using this
end
end
end Go.Sx

namespace Go.Sx
universe u
open Go Go.RowKit
def Po : Value → Value → Prop
 | .int k a, .int k' b => k = k' ∧ a = b
 | .bool a, .bool b => a = b
 | x, y => x = y
theorem Qv {x y : Value} (h : Po x y) : x = y := by
 unfold Po at h
 split at h
 ·rw [h.1, h.2]
 ·rw [h]
 ·exact h
def X3 (p : Nat → Prop) : Nat → Prop
 | 0 => True
 | 1 => p 0
 | n + 1 => X3 p n ∧ p n
theorem Y5 {p : Nat → Prop} {n : Nat} (h : X3 p n) : ∀ i, i < n → p i := by
 induction n with
 | zero => intro i hi; omega
 | succ n ih =>
  intro i hi
  cases n with
  | zero =>
   have : i = 0 := by omega
   rw [this]; exact h
  | succ n =>
   by_cases e : i = n + 1
   ·rw [e]; exact h.2
   ·exact ih h.1 i (by omega)
def zc : AV → AV → Prop
 | .v a, y =>
  match y with
  | .junk => True
  | .v b => Po a b
  | .xl _ _ len _ => a = .slice none 0 0 ∧ len = 0
  | _ => False
 | .str a, y =>
  match y with
  | .junk => True
  | .str b => a = b
  | _ => False
 | .xl f sz len els, y =>
  match y with
  | .junk => True
  | .xl f' sz' len' els' => (f' = true → f = true) ∧ sz' = sz ∧ len' = len ∧ ∀ i j, i < len → j < sz → zc (els i j) (els' i j)
  | _ => False
 | .xq n cells off, y =>
  match y with
  | .junk => True
  | .xq n' cells' off' => n' = n ∧ off' = off ∧ X3 (fun i => zc (cells i) (cells' i)) n
  | _ => False
 | .np k o, y =>
  match y with
  | .junk => True
  | .np k' o' => k' = k ∧ o' = o
  | _ => False
 | .ns k o l, y =>
  match y with
  | .junk => True
  | .ns k' o' l' => k' = k ∧ o' = o ∧ l' = l
  | _ => False
 | .ap k i j, y =>
  match y with
  | .junk => True
  | .ap k' i' j' => k' = k ∧ i' = i ∧ j' = j
  | _ => False
 | .agg n cs, y =>
  match y with
  | .junk => True
  | .agg n' cs' => n' = n ∧ X3 (fun i => zc (cs i) (cs' i)) n
  | _ => False
 | .tup n cs, y =>
  match y with
  | .junk => True
  | .tup n' cs' => n' = n ∧ X3 (fun i => zc (cs i) (cs' i)) n
  | _ => False
 | .fn f nf a nc b, y =>
  match y with
  | .junk => True
  | .fn f' nf' a' nc' b' => f' = f ∧ nf' = nf ∧ nc' = nc ∧ X3 (fun i => zc (a i) (a' i)) nf ∧ X3 (fun i => zc (b i) (b' i)) nc
  | _ => False
 | .gd g x, y =>
  match y with
  | .junk => True
  | .gd g' x' => g' = g ∧ zc x x'
  | y => g = true ∧ zc x y
 | .yl k, y =>
  match y with
  | .junk => True
  | .yl k' => k' = k
  | _ => False
 | .nb p z, y =>
  match y with
  | .junk => True
  | .nb p' z' => p' = p ∧ (z = true → z' = true)
  | _ => False
 | .er z, y =>
  match y with
  | .junk => True
  | .er z' => z' = z
  | _ => False
 | .ps k l, y =>
  match y with
  | .junk => True
  | .ps k' l' => k' = k ∧ l' = l
  | _ => False
 | .junk, y =>
  match y with
  | .junk => True
  | _ => False
section
variable {w : World} {S : Nat → Prop}
theorem yt {x y : AV} {v : Value} {ρ : Nat → Own} (hx : zr w S ρ x v) (h : zc x y) : zr w S ρ y v := by
 induction hx generalizing y with
 | v x =>
  unfold zc at h
  split at h
  ·exact .junk _
  ·rw [← Qv h]; exact .v _
  ·obtain ⟨rfl, rfl⟩ := h
   exact .xl none 0 (fun _ _ => undef) (Nat.le_refl _) (Nat.zero_le _) (fun _ => rfl) (fun i j hi _ => absurd hi (Nat.not_lt_zero _)) fun i j hi _ => absurd hi (Nat.not_lt_zero _)
  ·exact h.elim
 | str l =>
  unfold zc at h
  split at h
  ·exact .junk _
  ·rw [← h]; exact .str _
  ·exact h.elim
 | xl o cap cvs hle hm hf hc hr ih =>
  unfold zc at h
  split at h
  ·exact .junk _
  ·obtain ⟨h1, rfl, rfl, h4⟩ := h
   exact .xl o cap cvs hle hm (fun e => hf (h1 e)) hc fun i j hi hj => ih i j hi hj (h4 i j hi hj)
  ·exact h.elim
 | xq A cvs hc hr ih =>
  unfold zc at h
  split at h
  ·exact .junk _
  ·obtain ⟨rfl, rfl, h4⟩ := h
   exact .xq A cvs hc fun i hi => ih i hi (Y5 h4 i hi)
  ·exact h.elim
 | np g h0 =>
  unfold zc at h
  split at h
  ·exact .junk _
  ·obtain ⟨rfl, rfl⟩ := h; exact .np g h0
  ·exact h.elim
 | ns g base cap sz L h0 hl hc =>
  unfold zc at h
  split at h
  ·exact .junk _
  ·obtain ⟨rfl, rfl, rfl⟩ := h; exact .ns g base cap sz L h0 hl hc
  ·exact h.elim
 | ns0 g base cap sz L A h0 hl hc hz =>
  unfold zc at h
  split at h
  ·exact .junk _
  ·obtain ⟨rfl, rfl, rfl⟩ := h; exact .ns0 g base cap sz L A h0 hl hc hz
  ·exact h.elim
 | nsn sz o h0 =>
  unfold zc at h
  split at h
  ·exact .junk _
  ·obtain ⟨rfl, rfl, rfl⟩ := h; exact .nsn sz o h0
  ·exact h.elim
 | ap g base cap sz L h0 hi hc =>
  unfold zc at h
  split at h
  ·exact .junk _
  ·obtain ⟨rfl, rfl, rfl⟩ := h; exact .ap g base cap sz L h0 hi hc
  ·exact h.elim
 | nsr g cap sz L sub h0 hl hc =>
  unfold zc at h
  split at h
  ·exact .junk _
  ·obtain ⟨rfl, rfl, rfl⟩ := h; exact .nsr g cap sz L sub h0 hl hc
  ·exact h.elim
 | nsv q o cap h0 =>
  unfold zc at h
  split at h
  ·exact .junk _
  ·obtain ⟨rfl, rfl, rfl⟩ := h; exact .nsv q o cap h0
  ·exact h.elim
 | apr g cap sz L sub h0 hi hc =>
  unfold zc at h
  split at h
  ·exact .junk _
  ·obtain ⟨rfl, rfl, rfl⟩ := h; exact .apr g cap sz L sub h0 hi hc
  ·exact h.elim
 | yl g r h0 =>
  unfold zc at h
  split at h
  ·exact .junk _
  ·rw [h]; exact .yl g r h0
  ·exact h.elim
 | dyl h0 hx =>
  unfold zc at h
  split at h
  ·exact .junk _
  ·rw [h]; exact .dyl h0 hx
  ·exact h.elim
 | dnp h0 hx =>
  unfold zc at h
  split at h
  ·exact .junk _
  ·obtain ⟨rfl, rfl⟩ := h; exact .dnp h0 hx
  ·exact h.elim
 | dns h0 hx =>
  unfold zc at h
  split at h
  ·exact .junk _
  ·obtain ⟨rfl, rfl, rfl⟩ := h; exact .dns h0 hx
  ·exact h.elim
 | dap h0 hx =>
  unfold zc at h
  split at h
  ·exact .junk _
  ·obtain ⟨rfl, rfl, rfl⟩ := h; exact .dap h0 hx
  ·exact h.elim
 | agg vs hn hr ih =>
  unfold zc at h
  split at h
  ·exact .junk _
  ·obtain ⟨rfl, h2⟩ := h; exact .agg vs hn fun i hi => ih i hi (Y5 h2 i hi)
  ·exact h.elim
 | tup vs hn hr ih =>
  unfold zc at h
  split at h
  ·exact .junk _
  ·obtain ⟨rfl, h2⟩ := h; exact .tup vs hn fun i hi => ih i hi (Y5 h2 i hi)
  ·exact h.elim
 | fn vs us hn hm hr hs ih1 ih2 =>
  unfold zc at h
  split at h
  ·exact .junk _
  ·obtain ⟨rfl, rfl, rfl, h4, h5⟩ := h
   exact .fn vs us hn hm (fun i hi => ih1 i hi (Y5 h4 i hi)) fun i hi => ih2 i hi (Y5 h5 i hi)
  ·exact h.elim
 | gd v h1 h2 ih =>
  unfold zc at h
  split at h
  ·exact .junk _
  ·obtain ⟨rfl, h4⟩ := h; exact .gd v (fun hg => ih hg h4) h2
  ·exact ih h.1 h.2
 | nb t h0 =>
  unfold zc at h
  split at h
  ·exact .junk _
  ·obtain ⟨rfl, h2⟩ := h; exact .nb t fun e => h2 (h0 e)
  ·exact h.elim
 | er x h1 h2 =>
  unfold zc at h
  split at h
  ·exact .junk _
  ·rw [h]; exact .er x h1 h2
  ·exact h.elim
 | ps g cap h0 hc =>
  unfold zc at h
  split at h
  ·exact .junk _
  ·obtain ⟨rfl, rfl⟩ := h; exact .ps g cap h0 hc
  ·exact h.elim
 | dps h0 hx =>
  unfold zc at h
  split at h
  ·exact .junk _
  ·obtain ⟨rfl, rfl⟩ := h; exact .dps h0 hx
  ·exact h.elim
 | junk x =>
  unfold zc at h
  split at h
  ·exact .junk _
  ·exact h.elim
theorem zY : ∀ x : AV, zc x x
 | .v a => by
  show Po a a
  cases a with
  | int => exact ⟨rfl, rfl⟩
  | bool => exact (rfl : _ = _)
  | _ => exact (rfl : _ = _)
 | .str a => rfl
 | .xl f sz len els => ⟨fun h => h, rfl, rfl, fun i j _ _ => zY _⟩
 | .xq n cells off => ⟨rfl, rfl, by
  have h : ∀ i, zc (cells i) (cells i) := fun i => zY _
  induction n with
  | zero => trivial
  | succ n ih => cases n with
   | zero => exact h 0
   | succ n => exact ⟨ih, h _⟩⟩
 | .np k o => ⟨rfl, rfl⟩
 | .ns k o l => ⟨rfl, rfl, rfl⟩
 | .ap k i j => ⟨rfl, rfl, rfl⟩
 | .agg n cs => ⟨rfl, by
  have h : ∀ i, zc (cs i) (cs i) := fun i => zY _
  induction n with
  | zero => trivial
  | succ n ih => cases n with
   | zero => exact h 0
   | succ n => exact ⟨ih, h _⟩⟩
 | .tup n cs => ⟨rfl, by
  have h : ∀ i, zc (cs i) (cs i) := fun i => zY _
  induction n with
  | zero => trivial
  | succ n ih => cases n with
   | zero => exact h 0
   | succ n => exact ⟨ih, h _⟩⟩
 | .fn f nf a nc b => ⟨rfl, rfl, rfl, by
  have h : ∀ i, zc (a i) (a i) := fun i => zY _
  induction nf with
  | zero => trivial
  | succ n ih => cases n with
   | zero => exact h 0
   | succ n => exact ⟨ih, h _⟩, by
  have h : ∀ i, zc (b i) (b i) := fun i => zY _
  induction nc with
  | zero => trivial
  | succ n ih => cases n with
   | zero => exact h 0
   | succ n => exact ⟨ih, h _⟩⟩
 | .gd g x => ⟨rfl, zY x⟩
 | .yl k => (rfl : k = k)
 | .nb p z => ⟨rfl, fun h => h⟩
 | .er z => (rfl : z = z)
 | .ps k l => ⟨rfl, rfl⟩
 | .junk => trivial
theorem zF {x y : AV} (h : x = y) : zc x y := h ▸ zY x
end
def UW : List (Option Nat) → Nat → Nat → Option Nat
 | [], _, _ => none
 | o :: os, i, k =>
  match o with
  | some k' => bif Nat.beq k' k then some i else UW os (i + 1) k
  | none => UW os (i + 1) k
def ren (inv : Nat → Option Nat) : AV → AV
 | .np k o =>
  match inv k with
  | some i => .np i o
  | none => .junk
 | .ns k o l =>
  match inv k with
  | some i => .ns i o l
  | none => .junk
 | .ap k i j =>
  match inv k with
  | some k' => .ap k' i j
  | none => .junk
 | .agg n cs => .agg n fun i => ren inv (cs i)
 | .tup n cs => .tup n fun i => ren inv (cs i)
 | .fn f nf a nc b => .fn f nf (fun i => ren inv (a i)) nc fun i => ren inv (b i)
 | .gd g x => .gd g (ren inv x)
 | .yl k =>
  match inv k with
  | some i => .yl i
  | none => .junk
 | .ps k l =>
  match inv k with
  | some i => .ps i l
  | none => .junk
 | x => x
theorem qQ {w : World} {S : Nat → Prop} {ρ ρ' : Nat → Own} {inv : Nat → Option Nat} {x : AV} {v : Value} (hi : ∀ k i, inv k = some i → ρ' i = ρ k ∨ ρ' i = .dead) (h : zr w S ρ x v) :
  zr w S ρ' (ren inv x) v := by
 induction h with
 | v x => exact .v x
 | str l => exact .str l
 | xl o cap cvs hle hm hf hc hr ih => exact .xl o cap cvs hle hm hf hc hr
 | xq A cvs hc hr ih => exact .xq A cvs hc hr
 | np g h =>
  simp only [ren]
  split
  ·rename_i i e
   rcases hi _ _ e with e' | e'
   ·exact .np g (e'.trans h)
   ·exact .dnp e' ⟨_, rfl⟩
  ·exact .junk _
 | ns g base cap sz L h hl hc =>
  simp only [ren]
  split
  ·rename_i i e
   rcases hi _ _ e with e' | e'
   ·exact .ns g base cap sz L (e'.trans h) hl hc
   ·exact .dns e' ⟨_, _, rfl⟩
  ·exact .junk _
 | ns0 g base cap sz L A h hl hc h0 =>
  simp only [ren]
  split
  ·rename_i i e
   rcases hi _ _ e with e' | e'
   ·exact .ns0 g base cap sz L A (e'.trans h) hl hc h0
   ·exact .dns e' ⟨_, _, rfl⟩
  ·exact .junk _
 | nsn sz o h =>
  simp only [ren]
  split
  ·rename_i i e
   rcases hi _ _ e with e' | e'
   ·exact .nsn sz o (e'.trans h)
   ·exact .dns e' ⟨_, _, rfl⟩
  ·exact .junk _
 | ap g base cap sz L h hl hc =>
  simp only [ren]
  split
  ·rename_i i e
   rcases hi _ _ e with e' | e'
   ·exact .ap g base cap sz L (e'.trans h) hl hc
   ·exact .dap e' ⟨_, rfl⟩
  ·exact .junk _
 | nsr g cap sz L sub h hl hc =>
  simp only [ren]
  split
  ·rename_i i e
   rcases hi _ _ e with e' | e'
   ·exact .nsr g cap sz L sub (e'.trans h) hl hc
   ·exact .dns e' ⟨_, _, rfl⟩
  ·exact .junk _
 | nsv q o cap h =>
  simp only [ren]
  split
  ·rename_i i e
   rcases hi _ _ e with e' | e'
   ·exact .nsv q o cap (e'.trans h)
   ·exact .dns e' ⟨_, _, rfl⟩
  ·exact .junk _
 | apr g cap sz L sub h hl hc =>
  simp only [ren]
  split
  ·rename_i i e
   rcases hi _ _ e with e' | e'
   ·exact .apr g cap sz L sub (e'.trans h) hl hc
   ·exact .dap e' ⟨_, rfl⟩
  ·exact .junk _
 | yl g r h =>
  simp only [ren]
  split
  ·rename_i i e
   rcases hi _ _ e with e' | e'
   ·exact .yl g r (e'.trans h)
   ·exact .dyl e' ⟨_, rfl⟩
  ·exact .junk _
 | dyl h hx =>
  simp only [ren]
  split
  ·rename_i i e
   rcases hi _ _ e with e' | e'
   ·exact .dyl (e'.trans h) hx
   ·exact .dyl e' hx
  ·exact .junk _
 | dnp h hx =>
  simp only [ren]
  split
  ·rename_i i e
   rcases hi _ _ e with e' | e'
   ·exact .dnp (e'.trans h) hx
   ·exact .dnp e' hx
  ·exact .junk _
 | dns h hx =>
  simp only [ren]
  split
  ·rename_i i e
   rcases hi _ _ e with e' | e'
   ·exact .dns (e'.trans h) hx
   ·exact .dns e' hx
  ·exact .junk _
 | dap h hx =>
  simp only [ren]
  split
  ·rename_i i e
   rcases hi _ _ e with e' | e'
   ·exact .dap (e'.trans h) hx
   ·exact .dap e' hx
  ·exact .junk _
 | agg vs hn hr ih => exact .agg vs hn fun i h => ih i h hi
 | tup vs hn hr ih => exact .tup vs hn fun i h => ih i h hi
 | fn vs us hn hm hr hs ih1 ih2 => exact .fn vs us hn hm (fun i h => ih1 i h hi) fun i h => ih2 i h hi
 | gd v h h' ih => exact .gd v (fun h => ih h hi) h'
 | nb t h => exact .nb t h
 | er x h1 h2 => exact .er x h1 h2
 | ps g cap h hc =>
  simp only [ren]
  split
  ·rename_i i e
   rcases hi _ _ e with e' | e'
   ·exact .ps g cap (e'.trans h) hc
   ·exact .dps e' ⟨_, _, rfl⟩
  ·exact .junk _
 | dps h hx =>
  simp only [ren]
  split
  ·rename_i i e
   rcases hi _ _ e with e' | e'
   ·exact .dps (e'.trans h) hx
   ·exact .dps e' hx
  ·exact .junk _
 | junk x => exact .junk x
def PS (ks : List (Option Nat)) (x y : AV) : Prop :=
 match x, y with
 | .v (.slice none 0 0), .ns i o l => ks[i]? = some none ∧ o = 0 ∧ l = 0
 | .xl f _ len _, .ns i o l => ks[i]? = some none ∧ o = 0 ∧ l = 0 ∧ f = true ∧ len = 0
 | x, y => zc (ren (UW ks 0) x) y
def sd : AV → AV → Prop
 | .xl false s n el, y =>
  match y with
  | .xl false s' n' el' => s' = s ∧ n' = n ∧ ∀ i j, i < n → j < s → zc (el i j) (el' i j)
  | _ => False
 | _, _ => False
theorem zA.told {w : World} {S : Nat → Prop} {te : TypeId} {ssz : Nat} {x y : AV} {v : Value} {o : Option Nat} (h : zA w S te ssz x v o) (hm : sd x y) : zA w S te ssz y v o := by
 unfold sd at hm
 split at hm
 ·split at hm
  ·rename_i s n el s' n' el'
   obtain ⟨rfl, rfl, h3⟩ := hm
   cases o with
   | none =>
    obtain ⟨n2, el2, q1, q2⟩ := h
    cases q1
    refine ⟨_, _, rfl, yt q2 ?_⟩
    unfold zc
    exact ⟨fun _ => rfl, rfl, rfl, h3⟩
   | some g =>
    obtain ⟨n2, el2, cap, c, q1, q2, q3, q4, q5, q6, q7⟩ := h
    cases q1
    exact ⟨_, _, cap, c, rfl, q2, q3, q4, q5, q6, fun i j hi hj => ⟨yt (q7 i j hi hj).1 (h3 i j hi hj), (q7 i j hi hj).2⟩⟩
  ·exact hm.elim
 ·exact hm.elim
def PI (ks : List (Option Nat)) : Option (Nat × AV) → Option (Nat × AV) → Prop
 | none, none => True
 | some (i, y), some (i', y') => i' = i ∧ PS ks y y'
 | _, _ => False
def oY (ks : List (Option Nat)) : OB → OB → Prop
 | _, .dead => True
 | .box t n cells, .box t' n' cells' => t' = t ∧ n' = n ∧ X3 (fun i => PS ks (cells i) (cells' i)) n
 | .arr t sz len els, .arr t' sz' len' els' => t' = t ∧ sz' = sz ∧ len' = len ∧ ∀ i j, i < len → j < sz → zc (els i j) (els' i j)
 | .lrec st pend, .lrec st' pend' => st' = st ∧ pend' = pend
 | .rows t sz len col te ssz els out, .rows t' sz' len' col' te' ssz' els' out' => ((t' = t ∧ sz' = sz ∧ len' = len) ∧ col' = col ∧ te' = te ∧ ssz' = ssz) ∧ PI ks out out' ∧ (∀ i, i < len → sd (els i col) (els' i col)) ∧
   ∀ i j, i < len → j < sz → j ≠ col → zc (els i j) (els' i j)
 | .app te ssz len els, .app te' ssz' len' els' => te' = te ∧ ssz' = ssz ∧ len' = len ∧ ∀ i j, i < len → j < ssz → zc (els i j) (els' i j)
 | _, _ => False
def PG : OB → Prop
 | .dead => True
 | .arr _ _ len _ => len = 0
 | .rows _ _ len _ _ _ _ out => len = 0 ∧ out = none
 | _ => False
def uS : OB → Bool
 | .dead => true
 | _ => false
def distinct : List (Option Nat) → Bool
 | [] => true
 | some k :: ks => !ks.contains (some k) && distinct ks
 | none :: ks => distinct ks
def pL (nb : Nat) : List (Option Nat) → Bool
 | [] => true
 | some k :: ks => Nat.blt k nb && pL nb ks
 | none :: ks => pL nb ks
def lk (vars : List (Nat × AV)) (t : Nat) : AV :=
 match vars with
 | [] => .junk
 | (t', x) :: vs => bif Nat.beq t' t then x else lk vs t
def S6 (blks : List (Nat × OB)) (d : Nat → OB) (t : Nat) : OB :=
 match blks with
 | [] => d t
 | (t', x) :: vs => bif Nat.beq t' t then x else S6 vs d t
def uz (σ : zw) (i : Nat) : List (Nat × AV) → Option Nat
 | [] => some i
 | (t, x) :: vs =>
  match x.top with
  | some k => bif Nat.beq k i then (σ.ev (.tmp t)).strip.top else uz σ i vs
  | none => uz σ i vs
def TY (σ : zw) (i : Nat) : List (Nat × AV) → Option Nat
 | [] => none
 | (t, x) :: vs =>
  match x.top with
  | some k => bif Nat.beq k i then (σ.ev (.tmp t)).strip.top else TY σ i vs
  | none => TY σ i vs
def vt (σ : zw) (vars : List (Nat × AV)) (bl : Nat → OB) (i : Nat) : Nat → Option Nat
 | 0 => none
 | t + 1 =>
  match bl t, σ.bl ((uz σ t vars).getD t) with
  | .box _ n cs, .box _ _ cs' =>
   match (List.range n).findSome? (fun j => match (cs j).top with | some k => bif Nat.beq k i then (cs' j).strip.top else none | none => none) with
   | some k => some k
   | none => vt σ vars bl i t
  | _, _ => vt σ vars bl i t
def t7 (σ : zw) : Option Nat → Option Nat
 | some k => bif Nat.blt k σ.nb && !uS (σ.bl k) then some k else none
 | none => none
def TR (σ : zw) (vars : List (Nat × AV)) (bl : Nat → OB) (nb : Nat) : List (Option Nat) :=
 (List.range nb).map fun i => bif uS (bl i) then none else
  match t7 σ (TY σ i vars) with
  | some k => some k
  | none =>
   match t7 σ (vt σ vars bl i nb) with
   | some k => some k
   | none => t7 σ (uz σ i vars)
def Q1 {α : Type} (p : α → Prop) : List α → Prop
 | [] => True
 | [x] => p x
 | x :: xs => p x ∧ Q1 p xs
theorem Ro {α : Type} {p : α → Prop} {l : List α} (h : Q1 p l) : ∀ x ∈ l, p x := by
 induction l with
 | nil => intro x hx; cases hx
 | cons y ys ih =>
  cases ys with
  | nil => intro x hx; rw [List.mem_singleton.1 hx]; exact h
  | cons z zs =>
   intro x hx
   rcases List.mem_cons.1 hx with e | e
   ·rw [e]; exact h.1
   ·exact ih h.2 x e
def x6 (n nb : Nat) (vars : List (Nat × AV)) (bl : Nat → OB) : zw := { n := n, tm := lk vars, nb := nb, bl := bl }
def PY (nb0 : Nat) (ks : List (Option Nat)) (bl : Nat → OB) : Bool :=
 (List.range nb0).all fun i => uS (bl i) || match ks[i]? with
  | some (some k) => Nat.beq k i
  | _ => false
def Wt {α : Sort u} : List (Option Nat) → (List (Option Nat) → α) → α
 | [], k => k []
 | none :: l, k => Wt l fun l' => k (none :: l')
 | some n :: l, k => uW n fun m => Wt l fun l' => k (some m :: l')
theorem wZ {α : Sort u} : ∀ (l : List (Option Nat)) (k : List (Option Nat) → α), Wt l k = k l
 | [], _ => rfl
 | none :: l, k => wZ l _
 | some n :: l, k => by
  unfold Wt
  rw [XY, wZ]
def rj (ks : List (Option Nat)) (n nb0 : Nat) (σ : zw) (vars : List (Nat × AV)) (bl : Nat → OB) (nb : Nat) (more : Prop) : Prop :=
 match (Nat.beq σ.n n && (Nat.ble nb0 nb && PY nb0 ks bl)) && (distinct ks && pL σ.nb ks) with
 | true => (more ∧ Q1 (fun p : Nat × AV => PS ks (σ.ev (.tmp p.1)) p.2) vars) ∧
   X3 (fun i => match ks[i]? with
    | some (some k) => oY ks (σ.bl k) (bl i)
    | _ => PG (bl i)) nb
 | false => False
def Xt (n nb0 : Nat) (σ : zw) (vars : List (Nat × AV)) (bl : Nat → OB) (nb : Nat) (more : Prop) : Prop :=
 Wt (TR σ vars bl nb) fun ks => rj ks n nb0 σ vars bl nb more
section
variable {E : Env} {w : World} {S : Nat → Prop} {ρ : Nat → Own}
theorem Sy {ks : List (Option Nat)} {i0 k i : Nat} (h : UW ks i0 k = some i) : i0 ≤ i ∧ ks[i - i0]? = some (some k) := by
 induction ks generalizing i0 with
 | nil => cases h
 | cons o os ih =>
  simp only [UW] at h
  have step : UW os (i0 + 1) k = some i → i0 ≤ i ∧ (o :: os)[i - i0]? = some (some k) := fun h => by
   obtain ⟨h1, h2⟩ := ih h
   refine ⟨by omega, ?_⟩
   rw [show i - i0 = (i - (i0 + 1)) + 1 by omega, List.getElem?_cons_succ]
   exact h2
  split at h
  ·rename_i k'
   cases hb : Nat.beq k' k with
   | true =>
    rw [hb] at h
    cases h
    refine ⟨Nat.le_refl _, ?_⟩
    rw [Nat.eq_of_beq_eq_true hb]
    simp
   | false => rw [hb] at h; exact step h
  ·exact step h
theorem vI {ks : List (Option Nat)} (h : distinct ks = true) : ∀ (i j k : Nat), ks[i]? = some (some k) → ks[j]? = some (some k) → i = j := by
 induction ks with
 | nil => intro i j k hi; simp at hi
 | cons o os ih =>
  intro i j k hi hj
  have hos : distinct os = true := by cases o with
   | none => exact h
   | some k => simp only [distinct, Bool.and_eq_true] at h; exact h.2
  have hne : o = some k → ∀ m, os[m]? ≠ some (some k) := fun e m hm => by
   subst e
   simp only [distinct, Bool.and_eq_true, Bool.not_eq_true', List.contains_eq_mem, decide_eq_false_iff_not] at h
   exact h.1 (List.mem_of_getElem? hm)
  cases i with
  | zero => cases j with
   | zero => rfl
   | succ j => simp at hi hj; exact (hne hi j hj).elim
  | succ i => cases j with
   | zero => simp at hi hj; exact (hne hj i hi).elim
   | succ j => simp at hi hj; rw [ih hos i j k hi hj]
theorem xh {ks : List (Option Nat)} {nb : Nat} (h : pL nb ks = true) : ∀ k, some k ∈ ks → k < nb := by
 induction ks with
 | nil => intro k hk; cases hk
 | cons o os ih =>
  intro k hk
  cases o with
  | none =>
   rcases List.mem_cons.1 hk with e | e
   ·cases e
   ·exact ih h k e
  | some k' =>
   simp only [pL, Bool.and_eq_true] at h
   rcases List.mem_cons.1 hk with e | e
   ·cases e; exact Nat.le_of_ble_eq_true h.1
   ·exact ih h.2 k e
def ZU (ks : List (Option Nat)) (bl : Nat → OB) (ρ : Nat → Own) (nb i : Nat) : Own :=
 if i < nb then
  match bl i, ks[i]? with
  | .dead, _ => .dead
  | _, some (some k) => ρ k
  | .arr _ sz _ _, _ => .nila sz
  | .rows _ sz _ _ _ _ _ _, _ => .nila sz
  | _, _ => .dead
 else .none
theorem uV (σ : zw) (vars : List (Nat × AV)) (bl : Nat → OB) (nb : Nat) : (TR σ vars bl nb).length = nb := by simp [TR]
theorem ux {ρ' : Nat → Own} {ks : List (Option Nat)} {x y : AV} {v : Value} (hi : ∀ k i, UW ks 0 k = some i → ρ' i = ρ k ∨ ρ' i = .dead)
  (hn : ∀ i, ks[i]? = some none → ∃ sz, ρ' i = .nila sz ∨ ρ' i = .dead) (hx : zr w S ρ x v) (h : PS ks x y) : zr w S ρ' y v := by
 unfold PS at h
 split at h
 ·rename_i i o l
  obtain ⟨h1, rfl, rfl⟩ := h
  cases hx
  obtain ⟨sz, e | e⟩ := hn i h1
  ·exact .nsn sz none e
  ·exact .dns e ⟨_, _, rfl⟩
 ·rename_i f sz' len els i o l
  obtain ⟨h1, rfl, rfl, rfl, rfl⟩ := h
  cases hx with
  | xl o cap cvs hle hm hf hc hr =>
   obtain rfl : cap = 0 := hf rfl
   obtain ⟨sz, e | e⟩ := hn i h1
   ·exact .nsn sz o e
   ·exact .dns e ⟨_, _, rfl⟩
 ·exact yt (qQ hi hx) h
end
end Go.Sx
