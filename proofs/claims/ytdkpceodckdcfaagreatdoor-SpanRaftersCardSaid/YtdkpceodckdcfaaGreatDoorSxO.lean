/- Regions in any order: what only computes or reads comes first, the rest in each order that there is. -/
import Derived.Test.YtdkpceodckdcfaaGreatDoorSxM
set_option linter.unusedSimpArgs false
set_option linter.unusedVariables false
namespace Go.Sx
open Go Go.RowKit
section
variable {P : Program} {G : Cx} {m : Option Nat} {ops : List Oper}
theorem exList_mem {ex : TypeId → (AV → Prop) → Prop} (hex : ∀ t k, ex t k → ∃ r, (∀ k' : AV → Prop, k' r → ex t k') ∧ k r) :
  ∀ (ts : List TypeId) (k : List AV → Prop), exList ex ts k → ∃ r, (∀ k' : List AV → Prop, k' r → exList ex ts k') ∧ k r
 | [], _, h => ⟨[], fun _ h' => h', h⟩
 | t :: ts, k, h => by
  obtain ⟨v, h1, h2⟩ := hex t _ h
  obtain ⟨vs, h3, h4⟩ := exList_mem hex ts _ h2
  exact ⟨v :: vs, fun k' hk => h1 _ (h3 _ hk), h4⟩
theorem exAV_mem : ∀ (n : Nat) (t : TypeId) (k : AV → Prop), exAV P n t k → ∃ r, (∀ k' : AV → Prop, k' r → exAV P n t k') ∧ k r
 | 0, _, _, ⟨r, hr⟩ => ⟨r, fun _ h => ⟨r, h⟩, hr⟩
 | n + 1, t, k, h => by
  unfold exAV at h ⊢
  split at h
  ·obtain ⟨x, hx⟩ := h; exact ⟨_, fun _ h => ⟨x, h⟩, hx⟩
  ·obtain ⟨x, hx⟩ := h; exact ⟨_, fun _ h => ⟨x, h⟩, hx⟩
  ·obtain ⟨x, hx⟩ := h; exact ⟨_, fun _ h => ⟨x, h⟩, hx⟩
  ·obtain ⟨f, sz, len, els, hx⟩ := h; exact ⟨_, fun _ h => ⟨f, sz, len, els, h⟩, hx⟩
  ·obtain ⟨vs, h1, h2⟩ := exList_mem (exAV_mem n) _ _ h
   exact ⟨_, fun _ h => h1 _ h, h2⟩
  ·obtain ⟨x, hx⟩ := h; exact ⟨_, fun _ h => ⟨x, h⟩, hx⟩
theorem effFre_of {σ : Sig} {f : FuncId} {xs : List AV} (h : G.fre f xs = none) : effFre G σ f xs = none := by unfold effFre; rw [h]
theorem callK_mem {g : Option Bool} {f : FuncId} {xs : List AV} {t : TypeId} {K : AV → Prop} (h : callK P G g f xs t K) : ∃ r, (∀ k' : AV → Prop, k' r → callK P G g f xs t k') ∧ K r := by
 unfold callK at h ⊢
 split at h
 ·rename_i ps r _
  refine ⟨r, fun k' hk' => callP_mono (fun _ => hk') h, ?_⟩
  cases g with
  | none => exact ((allP_iff _ _).1 h).2
  | some g => exact ((gimp_iff _ _ _).1 h).2
 ·obtain ⟨r, h3, h4, h5⟩ := exAV_mem 3 _ _ h
  exact ⟨r, fun k' hk' => h3 _ ⟨h4, hk'⟩, h5⟩
theorem gcall_mem {g : Option Bool} {f : FuncId} {xs : List AV} {t : TypeId} {K : AV → Prop} (h : gcall P G g f xs t K) : ∃ r, (∀ k' : AV → Prop, k' r → gcall P G g f xs t k') ∧ K r := by
 unfold gcall at h ⊢
 split at h
 ·split at h
  ·exact ⟨offAV P t, fun k' hk' => hk', h⟩
  ·exact h.elim
 ·exact callK_mem h
def ResG (P : Program) (G : Cx) (g : Bool) (q : Option Bool) (σ : Sig) (o : Oper) (x : AV) : Prop :=
 (∃ ps, detOp P σ.bl σ.ev o.op = some (ps, x) ∧ (g = true → ∀ p ∈ ps, p.holds)) ∨
 (∃ t len parts, o.op = .buildSlice t len parts ∧ ¬ ((parts.toList.map fun p => σ.sv p.2).any AV.hasOwn = true) ∧
  effBuildSlice P σ t len (parts.toList.map (·.1)) (parts.toList.map fun p => σ.sv p.2) = some (σ, x) ∧ (g = true → ∀ p ∈ gprops σ (parts.toList.map (·.2)), p.holds)) ∨
 (∃ f args ts fid nf first nc cap, o.op = .call { callee := .value f, args, argTypes := ts } ∧ σ.sv f = .fn (.func fid) nf first nc cap ∧
  (g = true → ∀ p ∈ (σ.ev f).gprop ++ gprops σ args.toList, p.holds) ∧ ¬ ((fnArgs nf first (args.toList.map σ.sv) nc cap).any AV.hasOwn = true) ∧
  G.fre fid (fnArgs nf first (args.toList.map σ.sv) nc cap) = none ∧ ∀ k' : AV → Prop, k' x → gcall P G q fid (fnArgs nf first (args.toList.map σ.sv) nc cap) o.type k')
def Res (P : Program) (G : Cx) (ops : List Oper) (σ : Sig) (o : Oper) (x : AV) : Prop :=
 match o.guard with
 | none => ResG P G true none σ o x
 | some (j, want) => ∃ g x0, guardAV ops σ j want = some g ∧ x = .gd g x0 ∧ (((G.conc && !g) = true ∧ x0 = offAV P o.type) ∨ ((G.conc && !g) = false ∧ ResG P G g (some g) σ o x0))
def eagerD0 (G : Cx) (m : Option Nat) (σ : Sig) (o : Oper) : Bool :=
 match o.op with
 | .alloc _ | .box _ _ | .store _ _ _ | .makeSlice _ _ _ | .call { callee := .builtin .append, .. } => false
 | .buildSlice _ _ parts => !(parts.toList.map fun p => σ.sv p.2).any AV.hasOwn
 | .call { callee := .value f, args, .. } =>
  match σ.sv f with
  | .fn (.func fid) nf first nc cap => !(fnArgs nf first (args.toList.map σ.sv) nc cap).any AV.hasOwn && (G.fre fid (fnArgs nf first (args.toList.map σ.sv) nc cap)).isNone
  | _ => false
 | op => op.operands.toList.all fun x =>
  match (σ.sv x).top with
  | some k => Nat.blt k (lim m σ.nb)
  | none => true
def offB (G : Cx) (ops : List Oper) (σ : Sig) (o : Oper) : Bool :=
 match o.guard with
 | some (j, want) =>
  match guardAV ops σ j want with
  | some g => G.conc && !g
  | none => false
 | none => false
def eagerD (G : Cx) (m : Option Nat) (ops : List Oper) (σ : Sig) (o : Oper) : Bool := offB G ops σ o || eagerD0 G m σ o
theorem eager_take {σ : Sig} {o : Oper} {K : Sig → Prop} (he : eagerD G m ops σ o = true) (h : vcOpT P G m ops o σ K) : ∃ x, Res P G ops σ o x ∧ K (σ.put o.dst x) := by
 unfold vcOpT at h
 unfold Res
 cases hg : o.guard with
 | none =>
  have he : eagerD0 G m σ o = true := by
   unfold eagerD offB at he
   rw [hg] at he
   exact he
  rw [hg] at h
  simp only at h ⊢
  unfold vcUT at h
  unfold eagerD0 at he
  split at h
  ·rename_i ho; simp [ho] at he
  ·rename_i ho; simp [ho] at he
  ·exact h.elim
  ·rename_i ho
   split at h
   ·exact h.elim
   ·rename_i hno
    split at h
    ·rename_i hb
     obtain ⟨rfl, _⟩ := effBuild_any hb
     rw [allP_iff] at h
     exact ⟨_, .inr (.inl ⟨_, _, _, ho, hno, hb, fun _ => h.1⟩), h.2⟩
    ·exact h.elim
  ·rename_i ho; simp [ho] at he
  ·rename_i f args ts ho
   split at h
   ·rename_i hf
    rw [allP_iff] at h
    obtain ⟨h1, h2⟩ := h
    split at h2
    ·rename_i hown
     simp [ho, hf, hown] at he
    ·rename_i hno
     simp only [ho, hf, Bool.and_eq_true, Option.isNone_iff_eq_none] at he
     rw [effFre_of he.2] at h2
     obtain ⟨r, h3, h5⟩ := gcall_mem h2
     exact ⟨r, .inr (.inr ⟨f, args, ts, _, _, _, _, _, ho, hf, fun _ => h1, hno, he.2, h3⟩), h5⟩
   ·exact h.elim
  ·rename_i ho; simp [ho] at he
  ·split at h
   ·rename_i hd
    rw [allP_iff] at h
    exact ⟨_, .inl ⟨_, hd, fun _ => h.1⟩, h.2⟩
   ·exact h.elim
 | some jw =>
  obtain ⟨j, want⟩ := jw
  rw [hg] at h
  simp only at h ⊢
  split at h
  ·rename_i g hga
   cases hc : G.conc && !g with
   | true =>
    rw [hc] at h
    have hg0 : g = false := by cases g <;> simp_all
    subst hg0
    exact ⟨_, ⟨false, _, hga, rfl, .inl ⟨hc, rfl⟩⟩, h⟩
   | false =>
   rw [hc] at h
   have he : eagerD0 G m σ o = true := by
    unfold eagerD offB at he
    rw [hg] at he
    simp only [hga, hc, Bool.false_or] at he
    exact he
   simp only at h
   unfold vcG at h
   unfold eagerD0 at he
   split at h
   ·rename_i f args ts ho
    split at h
    ·rename_i hf
     rw [gimp_iff] at h
     obtain ⟨h1, h2⟩ := h
     simp only [ho, hf, Bool.and_eq_true, Bool.not_eq_true', Option.isNone_iff_eq_none] at he
     rw [if_neg (by rw [he.1]; simp)] at h2
     obtain ⟨r, h3, h5⟩ := gcall_mem h2
     exact ⟨_, ⟨g, r, hga, rfl, .inr ⟨hc, .inr (.inr ⟨f, args, ts, _, _, _, _, _, ho, hf, h1, by rw [he.1]; simp, he.2, h3⟩)⟩⟩, h5⟩
    ·exact h.elim
   ·rename_i ho
    split at h
    ·exact h.elim
    ·rename_i hno
     split at h
     ·rename_i hb
      obtain ⟨rfl, _⟩ := effBuild_any hb
      rw [gimp_iff] at h
      exact ⟨_, ⟨g, _, hga, rfl, .inr ⟨hc, .inr (.inl ⟨_, _, _, ho, hno, hb, h.1⟩)⟩⟩, h.2⟩
     ·exact h.elim
   ·split at h
    ·rename_i hd
     rw [gimp_iff] at h
     exact ⟨_, ⟨g, _, hga, rfl, .inr ⟨hc, .inl ⟨_, hd, h.1⟩⟩⟩, h.2⟩
    ·exact h.elim
  ·exact h.elim
theorem res_take {σ : Sig} {o : Oper} {x : AV} {K : Sig → Prop} (hr : Res P G ops σ o x) (h : K (σ.put o.dst x)) : vcOpT P G m ops o σ K := by
 unfold Res at hr
 unfold vcOpT
 cases hg : o.guard with
 | none =>
  rw [hg] at hr
  simp only at hr ⊢
  rcases hr with ⟨ps, h1, h2⟩ | ⟨tb, lb, parts, hob, hnob, heb, hgb⟩ | ⟨f, args, ts, fid, nf, first, nc, cap, ho, hf, h1, h2, hfr, h3⟩
  ·unfold vcUT
   split
   ·rename_i ho; rw [ho] at h1; simp [detOp, detRaw] at h1
   ·rename_i ho; rw [ho] at h1; simp [detOp, detRaw] at h1
   ·rename_i ho; rw [ho] at h1; simp [detOp, detRaw] at h1
   ·rename_i ho; rw [ho] at h1; simp [detOp, detRaw] at h1
   ·rename_i ho; rw [ho] at h1; simp [detOp, detRaw] at h1
   ·rename_i ho; rw [ho] at h1; simp [detOp, detRaw] at h1
   ·rename_i ho; rw [ho] at h1; simp [detOp, detRaw, biAV] at h1
   ·rw [h1]
    simp only
    rw [allP_iff]
    exact ⟨h2 rfl, h⟩
  ·simp only [vcUT, hob, if_neg hnob, heb, allP_iff]
   exact ⟨hgb rfl, h⟩
  ·simp only [vcUT, ho, hf, allP_iff, if_neg h2, effFre_of hfr]
   exact ⟨h1 rfl, h3 _ h⟩
 | some jw =>
  obtain ⟨j, want⟩ := jw
  rw [hg] at hr
  simp only at hr ⊢
  obtain ⟨g, x0, hga, rfl, hr⟩ := hr
  rw [hga]
  simp only
  rcases hr with ⟨hc, rfl⟩ | ⟨hc, hr⟩
  ·rw [hc]
   have hg0 : g = false := by cases g <;> simp_all
   subst hg0
   exact h
  rw [hc]
  simp only
  rcases hr with ⟨ps, h1, h2⟩ | ⟨tb, lb, parts, hob, hnob, heb, hgb⟩ | ⟨f, args, ts, fid, nf, first, nc, cap, ho, hf, h1, h2, hfr, h3⟩
  ·unfold vcG
   split
   ·rename_i ho; rw [ho] at h1; simp [detOp, detRaw] at h1
   ·rename_i ho; rw [ho] at h1; simp [detOp, detRaw] at h1
   ·rw [h1]
    simp only
    rw [gimp_iff]
    exact ⟨h2, h⟩
  ·simp only [vcG, hob, if_neg hnob, heb, gimp_iff]
   exact ⟨hgb, h⟩
  ·simp only [vcG, ho, hf, gimp_iff, if_neg h2]
   exact ⟨h1, h3 _ h⟩
theorem Grow.guard {σ σ' : Sig} {d : Option Tmp} (h : Grow m d σ σ') {j : Nat} {want : Bool} (hd : ∀ t, d = some t → (ops[j]?).bind (·.dst) ≠ some t) :
  guardAV ops σ' j want = guardAV ops σ j want := by
 unfold guardAV
 cases ho : ops[j]? with
 | none => rfl
 | some o =>
  simp only
  cases hod : o.dst with
  | none => rfl
  | some t =>
   simp only
   have hne : d ≠ some t := fun e => hd t e (by rw [ho, Option.bind_some, hod])
   rw [h.n, h.tm t hne]
theorem res_grow {σ σ' : Sig} {o : Oper} {x : AV} {d : Option Tmp} (hG : Grow m d σ σ') (h1 : ∀ t, d = some t → t ∉ o.looksAt ops.toArray) (he : eagerD G m ops σ o = true) (hr : Res P G ops σ o x) :
  Res P G ops σ' o x ∧ eagerD G m ops σ' o = true := by
 have hl := looks_op h1
 have hev : ∀ y ∈ o.op.operands, σ'.ev y = σ.ev y := fun y hy => hG.ev (hl y hy)
 have hsv : ∀ y ∈ o.op.operands, σ'.sv y = σ.sv y := fun y hy => sv_congr (hev y hy)
 have key : ∀ g q x, eagerD0 G m σ o = true → ResG P G g q σ o x → ResG P G g q σ' o x := by
  rintro g q x he (⟨ps, h1, h2⟩ | ⟨tb, lb, parts, hob, hnob, heb, hgb⟩ | ⟨f, args, ts, fid, nf, first, nc, cap, ho, hf, h1, h2, hfr, h3⟩)
  ·refine .inl ⟨ps, ?_, h2⟩
   rw [← h1]
   refine det_congr hev fun y hy k hk => hG.bl k ?_
   have hall : (o.op.operands.toList.all fun x => match (σ.sv x).top with | some k => Nat.blt k (lim m σ.nb) | none => true) = true := by
    unfold eagerD0 at he
    split at he
    ·cases he
    ·cases he
    ·cases he
    ·cases he
    ·cases he
    ·rename_i ho; rw [ho] at h1; simp [detOp, detRaw] at h1
    ·rename_i ho; rw [ho] at h1; simp [detOp, detRaw] at h1
    ·exact he
   have := List.all_eq_true.1 hall y (Array.mem_toList_iff.2 hy)
   rw [show (σ.sv y).top = some k from hk] at this
   exact Nat.le_of_ble_eq_true this
  ·have hin : ∀ p ∈ parts.toList, p.2 ∈ o.op.operands := fun p hp => by rw [hob]; simp only [Op.operands, List.mem_toArray, List.mem_map]; exact ⟨p, hp, rfl⟩
   have e1 : (parts.toList.map fun p => σ'.sv p.2) = parts.toList.map fun p => σ.sv p.2 := List.map_congr_left fun p hp => hsv _ (hin p hp)
   have e2 : gprops σ' (parts.toList.map (·.2)) = gprops σ (parts.toList.map (·.2)) := gprops_congr fun y hy => by
    obtain ⟨p, hp, rfl⟩ := List.mem_map.1 hy
    exact hev _ (hin p hp)
   exact .inr (.inl ⟨tb, lb, parts, hob, by rw [e1]; exact hnob, by rw [e1]; exact (effBuild_any heb).2 _, by rw [e2]; exact hgb⟩)
  ·have hin : ∀ y ∈ args.toList, y ∈ o.op.operands := fun y hy => by rw [ho]; simp only [Op.operands, Call.operands, Array.mem_append]; exact .inr (Array.mem_toList_iff.1 hy)
   have e1 := hev f (by rw [ho]; simp [Op.operands, Call.operands])
   have e2 : args.toList.map σ'.sv = args.toList.map σ.sv := List.map_congr_left fun y hy => hsv _ (hin y hy)
   have e3 : gprops σ' args.toList = gprops σ args.toList := gprops_congr fun y hy => hev _ (hin y hy)
   exact .inr (.inr ⟨f, args, ts, fid, nf, first, nc, cap, ho, by rw [sv_congr e1]; exact hf, by rw [e1, e3]; exact h1, by rw [e2]; exact h2, by rw [e2]; exact hfr, by rw [e2]; exact h3⟩)
 have hgd : ∀ j want, o.guard = some (j, want) → guardAV ops σ' j want = guardAV ops σ j want := fun j want hg => hG.guard (looks_guard h1 hg)
 have hoff : offB G ops σ' o = offB G ops σ o := by
  unfold offB
  cases hg : o.guard with
  | none => rfl
  | some jw => obtain ⟨j, want⟩ := jw; simp only [hgd j want hg]
 constructor
 ·unfold Res at hr ⊢
  cases hg : o.guard with
  | none =>
   rw [hg] at hr
   refine key _ _ _ ?_ hr
   unfold eagerD offB at he
   rw [hg] at he
   exact he
  | some jw =>
   obtain ⟨j, want⟩ := jw
   rw [hg] at hr
   obtain ⟨g, x0, h2, h3, h4⟩ := hr
   refine ⟨g, x0, by rw [hgd j want hg]; exact h2, h3, ?_⟩
   rcases h4 with h4 | ⟨hc, h4⟩
   ·exact .inl h4
   ·refine .inr ⟨hc, key _ _ _ ?_ h4⟩
    unfold eagerD offB at he
    rw [hg] at he
    simp only [h2, hc, Bool.false_or] at he
    exact he
 ·have hall : (o.op.operands.toList.all fun x => match (σ.sv x).top with | some k => Nat.blt k (lim m σ.nb) | none => true) = true →
    (o.op.operands.toList.all fun x => match (σ'.sv x).top with | some k => Nat.blt k (lim m σ'.nb) | none => true) = true := fun h => by
   rw [List.all_eq_true] at h ⊢
   intro y hy
   have := h y hy
   rw [hsv y (Array.mem_toList_iff.1 hy)]
   revert this
   split
   ·intro hk
    exact Nat.ble_eq_true_of_le (Nat.le_trans (Nat.le_of_ble_eq_true hk) (lim_mono hG.nb))
   ·exact fun _ => rfl
  unfold eagerD at he ⊢
  rw [hoff]
  cases ho1 : offB G ops σ o with
  | true => rfl
  | false =>
  rw [ho1, Bool.false_or] at he
  rw [Bool.false_or]
  unfold eagerD0 at he ⊢
  split at he
  ·cases he
  ·cases he
  ·cases he
  ·cases he
  ·cases he
  ·rename_i parts ho
   have e1 : (parts.toList.map fun p => σ'.sv p.2) = parts.toList.map fun p => σ.sv p.2 := List.map_congr_left fun p hp => hsv _ (by rw [ho]; simp only [Op.operands, List.mem_toArray, List.mem_map]; exact ⟨p, hp, rfl⟩)
   rw [e1]
   exact he
  ·rename_i f args ts ho
   have hin : ∀ y ∈ args.toList, y ∈ o.op.operands := fun y hy => by rw [ho]; simp only [Op.operands, Call.operands, Array.mem_append]; exact .inr (Array.mem_toList_iff.1 hy)
   have e1 := hev f (by rw [ho]; simp [Op.operands, Call.operands])
   have e2 : args.toList.map σ'.sv = args.toList.map σ.sv := List.map_congr_left fun y hy => hsv _ (hin y hy)
   rw [sv_congr e1, e2]
   exact he
  ·exact hall he
end
end Go.Sx

namespace Go.Sx
universe u
open Go Go.RowKit
inductive Anc (ops : List Oper) : Nat → Nat → Prop where
 | edge {i j : Nat} {o : Oper} {e : Edge} (ho : ops[j]? = some o) (he : e ∈ o.after) (hb : Region.binds .any e = true) (hi : e.on = i) : Anc ops i j
 | step {i j : Nat} {o : Oper} {e : Edge} (ho : ops[j]? = some o) (he : e ∈ o.after) (hb : Region.binds .any e = true) (hi : Anc ops i e.on) : Anc ops i j
def edgeMask (acc : List Nat) : List Edge → Nat
 | [] => 0
 | e :: es => bif Region.binds .any e then (1 <<< e.on) ||| acc.getD e.on 0 ||| edgeMask acc es else edgeMask acc es
def ancL : List Oper → List Nat → List Nat
 | [], acc => acc
 | o :: os, acc => ancL os (acc ++ [edgeMask acc o.after.toList])
def Closed (ops : List Oper) (L : Array Bool) : Prop :=
 ∀ j o, ops[j]? = some o → L.getD j false = true → ∀ e ∈ o.after, Region.binds .any e = true → L.getD e.on false = true
def stepJ (P : Program) (G : Cx) (m : Option Nat) (ops : List Oper) (late : Bool) (o : Oper) (σ : Sig) (k : Sig → Prop) : Prop :=
 match late with
 | true => vcOp P G ops o σ k
 | false => vcOpT P G m ops o σ k
def AllOrd (P : Program) (G : Cx) (m : Option Nat) (ops : List Oper) (late : Nat → Bool) : Nat → Array Bool → Sig → (Sig → Prop) → Prop
 | 0, L, σ, k => Region.ready .any ops.toArray L = [] ∧ k σ
 | f + 1, L, σ, k => (Region.ready .any ops.toArray L = [] → k σ) ∧
   ∀ j ∈ Region.ready .any ops.toArray L, ∀ o, ops[j]? = some o → stepJ P G m ops (late j) o σ fun σ' => AllOrd P G m ops late f (L.setIfInBounds j true) σ' k
def okI (ops : List Oper) (A : List Nat) (late : Nat → Bool) (L : Array Bool) (i : Nat) (oi : Oper) : Bool :=
 (List.range ops.length).all fun j => j == i || (A.getD j 0).testBit i || L.getD j true ||
  match ops[j]? with
  | some oj => !late j && oi.apart ops.toArray oj
  | none => true
def eagerB (G : Cx) (m : Option Nat) (ops : List Oper) (A : List Nat) (late : Nat → Bool) (L : Array Bool) (σ : Sig) (i : Nat) : Bool :=
 match ops[i]? with
 | some o => eagerD G m ops σ o && okI ops A late L i o
 | none => false
def allOf (rs : List Nat) (p : Nat → Prop) : Prop :=
 match rs with
 | [] => True
 | [i] => p i
 | i :: rs => p i ∧ allOf rs p
def vcAny (P : Program) (G : Cx) (m : Option Nat) (ops : List Oper) (A : List Nat) (late : Nat → Bool) : Nat → Array Bool → Sig → (Sig → Prop) → Prop
 | 0, L, σ, k =>
  match Region.ready .any ops.toArray L with
  | [] => k σ
  | _ => False
 | f + 1, L, σ, k =>
  match Region.ready .any ops.toArray L with
  | [] => k σ
  | rs =>
   match rs.find? (eagerB G m ops A late L σ) with
   | some i =>
    match ops[i]? with
    | some o => vcOpT P G m ops o σ fun σ' => vcAny P G m ops A late f (L.setIfInBounds i true) σ' k
    | none => False
   | none => allOf rs fun i =>
    match ops[i]? with
    | some o => stepJ P G m ops (late i) o σ fun σ' => vcAny P G m ops A late f (L.setIfInBounds i true) σ' k
    | none => False
section
variable {P : Program} {G : Cx} {m : Option Nat} {ops : List Oper} {late : Nat → Bool}
theorem edgeMask_spec {acc : List Nat} {i : Nat} : ∀ (es : List Edge), (edgeMask acc es).testBit i = true → ∃ e ∈ es, Region.binds .any e = true ∧ (e.on = i ∨ (acc.getD e.on 0).testBit i = true)
 | [], h => by simp [edgeMask] at h
 | e :: es, h => by
  unfold edgeMask at h
  cases hb : Region.binds .any e with
  | false =>
   rw [hb] at h
   obtain ⟨e', h1, h2⟩ := edgeMask_spec es h
   exact ⟨e', List.mem_cons_of_mem _ h1, h2⟩
  | true =>
   rw [hb] at h
   simp only [cond_true, Nat.testBit_or, Bool.or_eq_true] at h
   rcases h with (h | h) | h
   ·refine ⟨e, List.mem_cons_self, hb, .inl ?_⟩
    rw [Nat.one_shiftLeft, Nat.testBit_two_pow] at h
    exact of_decide_eq_true h
   ·exact ⟨e, List.mem_cons_self, hb, .inr h⟩
   ·obtain ⟨e', h1, h2⟩ := edgeMask_spec es h
    exact ⟨e', List.mem_cons_of_mem _ h1, h2⟩
theorem ancL_spec : ∀ (os : List Oper) (acc : List Nat), (∀ j, os[j]? = ops[acc.length + j]?) → (∀ j i, (acc.getD j 0).testBit i = true → Anc ops i j) →
  ∀ j i, ((ancL os acc).getD j 0).testBit i = true → Anc ops i j
 | [], _, _, h, j, i, hi => h j i hi
 | o :: os, acc, ho, h, j, i, hi => by
  refine ancL_spec os (acc ++ [edgeMask acc o.after.toList]) (fun j => ?_) (fun j i hi => ?_) j i hi
  ·have := ho (j + 1)
   simpa [Nat.add_assoc, Nat.add_comm 1 j] using this
  ·by_cases hj : j < acc.length
   ·rw [List.getD_eq_getElem?_getD, List.getElem?_append_left hj, ← List.getD_eq_getElem?_getD] at hi
    exact h j i hi
   ·by_cases hj' : j = acc.length
    ·subst hj'
     rw [List.getD_eq_getElem?_getD, List.getElem?_append_right (Nat.le_refl _)] at hi
     simp only [Nat.sub_self, List.getElem?_cons_zero, Option.getD_some] at hi
     obtain ⟨e, h1, h2, h3⟩ := edgeMask_spec _ hi
     have ho' : ops[acc.length]? = some o := by simpa using (ho 0).symm
     rcases h3 with h3 | h3
     ·exact .edge ho' (Array.mem_toList_iff.1 h1) h2 h3
     ·exact .step ho' (Array.mem_toList_iff.1 h1) h2 (h _ _ h3)
    ·rw [List.getD_eq_getElem?_getD, List.getElem?_eq_none (by simp; omega)] at hi
     simp at hi
theorem anc_listed {L : Array Bool} (hL : Closed ops L) {i j : Nat} (h : Anc ops i j) {o : Oper} (ho : ops[j]? = some o)
  (hj : ∀ e ∈ o.after, Region.binds .any e = true → L.getD e.on false = true) : L.getD i false = true := by
 induction h generalizing o with
 | edge ho' he hb hi =>
  rw [ho'] at ho
  cases ho
  exact hi ▸ hj _ he hb
 | step ho' he hb hi ih =>
  rw [ho'] at ho
  cases ho
  have h1 := hj _ he hb
  rename_i e
  cases ho2 : ops[e.on]? with
  | none => cases hi with
   | edge h => rw [ho2] at h; cases h
   | step h => rw [ho2] at h; cases h
  | some o2 => exact ih ho2 (hL _ _ ho2 h1)
theorem getD_unlisted {L : Array Bool} {i : Nat} (h : L.getD i true = false) : L.getD i false = false := by
 rcases Nat.lt_or_ge i L.size with h' | h'
 ·simp [h'] at h ⊢; exact h
 ·simp [Array.getElem?_eq_none h'] at h
theorem Closed.set {L : Array Bool} (hL : Closed ops L) {j : Nat} (hj : j ∈ Region.ready .any ops.toArray L) : Closed ops (L.setIfInBounds j true) := by
 obtain ⟨hun, oj, hoj, hall⟩ := mem_ready.1 hj
 rw [List.getElem?_toArray] at hoj
 have keep : ∀ n, L.getD n false = true → (L.setIfInBounds j true).getD n false = true := fun n h => by
  by_cases e : j = n
  ·subst e
   rw [getD_unlisted hun] at h
   cases h
  ·simpa [Array.getD_eq_getD_getElem?, Array.getElem?_setIfInBounds, e] using h
 intro n o ho hn e he hb
 by_cases ejn : j = n
 ·subst ejn
  rw [hoj] at ho
  cases ho
  exact keep _ (hall e he hb)
 ·refine keep _ (hL n o ho ?_ e he hb)
  simpa [Array.getD_eq_getD_getElem?, Array.getElem?_setIfInBounds, ejn] using hn
theorem first {i : Nat} {oi : Oper} {x : AV} {k : Sig → Prop} (hi : ops[i]? = some oi) : ∀ (f : Nat) (L : Array Bool) (σ : Sig), Closed ops L →
  (∀ j oj, ops[j]? = some oj → j ≠ i → L.getD j true = false → ¬ Anc ops i j → late j = false ∧ oi.apart ops.toArray oj = true) → i ∈ Region.ready .any ops.toArray L →
  eagerD G m ops σ oi = true → Res P G ops σ oi x → AllOrd P G m ops late f (L.setIfInBounds i true) (σ.put oi.dst x) k → AllOrd P G m ops late (f + 1) L σ k := by
 intro f
 have self : ∀ (f : Nat) (L : Array Bool) (σ : Sig), Res P G ops σ oi x → AllOrd P G m ops late f (L.setIfInBounds i true) (σ.put oi.dst x) k →
   stepJ P G m ops (late i) oi σ fun σ' => AllOrd P G m ops late f (L.setIfInBounds i true) σ' k := fun f L σ hr H => by
  cases late i with
  | true => exact vcOp_of_T (m := m) (res_take hr H)
  | false => exact res_take hr H
 induction f with
 | zero =>
  intro L σ hL hs hr he hres H
  refine ⟨fun h => (by rw [h] at hr; cases hr), fun j hj o ho => ?_⟩
  by_cases hji : j = i
  ·subst hji
   rw [hi] at ho; cases ho
   exact self 0 L σ hres H
  ·have := ready_mono hj hji
   rw [H.1] at this
   cases this
 | succ f ih =>
  intro L σ hL hs hr he hres H
  refine ⟨fun h => (by rw [h] at hr; cases hr), fun j hj o ho => ?_⟩
  by_cases hji : j = i
  ·subst hji
   rw [hi] at ho; cases ho
   exact self (f + 1) L σ hres H
  ·have h1 := H.2 j (ready_mono hj hji) o ho
   obtain ⟨hjun, oj, hoj, hall⟩ := mem_ready.1 hj
   rw [List.getElem?_toArray, ho] at hoj
   cases hoj
   have hiun := (mem_ready.1 hr).1
   have hnot : ¬ Anc ops i j := fun hA => by
    have := anc_listed hL hA ho hall
    rw [getD_unlisted hiun] at this
    cases this
   obtain ⟨hlate, hap⟩ := hs j o ho hji hjun hnot
   obtain ⟨a1, a2, a3⟩ := Oper.apart_spec hap
   rw [hlate] at h1 ⊢
   have h2 := vcOpT_put a1 a2 h1
   refine vcOpT_mono (fun σ' h => ?_) h2
   obtain ⟨hG, hA⟩ := h
   obtain ⟨r1, r2⟩ := res_grow hG a3 he hres
   refine ih _ σ' (hL.set hj) (fun n on hn hni hnun hnA => ?_) (ready_mono hr (Ne.symm hji)) r2 r1 ?_
   ·refine hs n on hn hni ?_ hnA
    by_cases hjn : j = n
    ·subst hjn; exact hjun
    ·rw [getD_set_ne true hjn] at hnun; exact hnun
   ·rw [Array.setIfInBounds_comm _ _ hji]
    exact hA
theorem allOf_iff (rs : List Nat) (p : Nat → Prop) : allOf rs p ↔ ∀ i ∈ rs, p i := by
 induction rs with
 | nil => simp [allOf]
 | cons i rs ih =>
  cases rs with
  | nil => simp [allOf]
  | cons j rs => rw [show allOf (i :: j :: rs) p = (p i ∧ allOf (j :: rs) p) from rfl, ih]; simp
theorem vcBody_mono (hO : OwnSound P G) {σ : Sig} {f : FuncId} {xs : List AV} {k k' : Sig → AV → Prop} (hk : ∀ σ x, k σ x → k' σ x) (h : vcBody G σ f xs k) : vcBody G σ f xs k' := by
 unfold vcBody at h ⊢
 split at h
 ·rename_i T hT
  exact (hO.own f T hT).mono _ _ _ _ _ (fun nb bl x h => hk _ _ h) h
 ·exact h
theorem vcCall_mono (hO : OwnSound P G) {σ : Sig} {f : FuncId} {xs : List AV} {t : TypeId} {d : Option Tmp} {K K' : Sig → Prop} (hk : ∀ σ, K σ → K' σ) (h : vcCall P G σ f xs t d K) : vcCall P G σ f xs t d K' := by
 unfold vcCall at h ⊢
 split at h
 ·rename_i h1
  rw [if_pos h1]
  split at h
  ·rename_i T hT
   exact (hO.own f T hT).mono _ _ _ _ _ (fun nb bl x h => hk _ h) h
  ·split at h
   ·exact allP_mono (hk _) h
   split at h
   ·rename_i h2
    rw [if_pos h2]
    exact callK_mono (fun r hr => hk _ hr) h
   ·rename_i h2
    rw [if_neg h2]
    split at h
    ·split at h
     ·exact h.elim
     ·rename_i h3
      rw [if_neg h3]
      split at h
      ·exact allP_mono (hk _) h
      ·exact callK_mono (fun r hr => hk _ hr) h
    ·exact h
 ·rename_i h1
  rw [if_neg h1]
  split at h
  ·exact allP_mono (hk _) h
  split at h
  ·exact vcBody_mono hO (fun _ _ h => hk _ h) h
  ·exact callK_mono (fun r hr => hk _ hr) h
theorem vcGU_mono (hO : OwnSound P G) {g : Bool} {σ : Sig} {o : Oper} {K K' : Sig → Prop} (hk : ∀ σ, K σ → K' σ) (h : vcGU P G g σ o K) : vcGU P G g σ o K' := by
 unfold vcGU at h ⊢
 split at h
 ·split at h
  ·split at h
   ·rw [bsplit_iff] at h ⊢
    exact ⟨fun hg => allP_mono (vcBody_mono hO fun _ _ h => hk _ h) (h.1 hg), fun hg => hk _ (h.2 hg)⟩
   ·exact vcG_mono hk h
  ·split at h
   ·rename_i T hT
    rw [bsplit_iff] at h ⊢
    exact ⟨fun hg => allP_mono (hO.mono _ T hT _ _ _ _ _ fun nb bl x h => hk _ h) (h.1 hg), fun hg => hk _ (h.2 hg)⟩
   ·exact h.elim
  ·exact vcG_mono hk h
 ·exact vcG_mono hk h
theorem vcU_mono (hO : OwnSound P G) {σ : Sig} {o : Oper} {K K' : Sig → Prop} (hk : ∀ σ, K σ → K' σ) (h : vcU P G σ o K) : vcU P G σ o K' := by
 unfold vcU at h ⊢
 split at h
 ·split at h
  ·exact hk _ h
  ·exact h
 ·split at h
  ·exact allP_mono (hk _) h
  ·exact h
 ·split at h
  ·split at h
   ·exact allP_mono (hk _) h
   ·split at h
    ·exact allP_mono (hk _) h
    ·exact h
  ·exact h.elim
 ·split at h
  ·split at h
   ·exact allP_mono (hk _) h
   ·exact h
  ·exact h
 ·split at h
  ·exact allP_mono (hk _) h
  ·exact h
 ·split at h
  ·exact allP_mono (vcCall_mono hO hk) h
  ·split at h
   ·rename_i T hT
    exact allP_mono (hO.mono _ T hT _ _ _ _ _ fun nb bl x h => hk _ h) h
   ·exact h
  ·exact h
 ·split at h
  ·split at h
   ·rename_i htt
    rw [if_pos htt]
    split at h
    ·exact allP_mono (hk _) h
    ·split at h
     ·exact allP_mono (hk _) h
     ·exact h
   ·rename_i htt
    rw [if_neg htt]
    split at h
    ·exact allP_mono (hk _) h
    ·exact h.elim
  ·exact h
 ·split at h
  ·exact allP_mono (hk _) h
  ·exact h
theorem vcOp_mono (hO : OwnSound P G) {σ : Sig} {o : Oper} {K K' : Sig → Prop} (hk : ∀ σ, K σ → K' σ) (h : vcOp P G ops o σ K) : vcOp P G ops o σ K' := by
 unfold vcOp at h ⊢
 split at h
 ·exact vcU_mono hO hk h
 ·split at h
  ·rename_i g _
   cases hc : G.conc && !g with
   | true => rw [hc] at h; exact hk _ h
   | false => rw [hc] at h; exact vcGU_mono hO hk h
  ·exact h
theorem stepJ_mono (hO : OwnSound P G) {l : Bool} {σ : Sig} {o : Oper} {K K' : Sig → Prop} (hk : ∀ σ, K σ → K' σ) (h : stepJ P G m ops l o σ K) : stepJ P G m ops l o σ K' := by
 cases l with
 | true => exact vcOp_mono hO hk h
 | false => exact vcOpT_mono hk h
theorem stepJ_op {l : Bool} {σ : Sig} {o : Oper} {K : Sig → Prop} (h : stepJ P G m ops l o σ K) : vcOp P G ops o σ K := by
 cases l with
 | true => exact h
 | false => exact vcOp_of_T h
theorem okI_spec {A : List Nat} {L : Array Bool} {i : Nat} {oi : Oper} (hA : ∀ j i, (A.getD j 0).testBit i = true → Anc ops i j) (h : okI ops A late L i oi = true) :
  ∀ j oj, ops[j]? = some oj → j ≠ i → L.getD j true = false → ¬ Anc ops i j → late j = false ∧ oi.apart ops.toArray oj = true := fun j oj hj hji hun hno => by
 have hlt : j < ops.length := (List.getElem?_eq_some_iff.1 hj).1
 have := List.all_eq_true.1 h j (List.mem_range.2 hlt)
 simp only [hj, Bool.or_eq_true, Bool.and_eq_true, Bool.not_eq_true'] at this
 rcases this with ((h1 | h1) | h1) | h1
 ·exact absurd (by simpa using h1) hji
 ·exact absurd (hA _ _ h1) hno
 ·rw [hun] at h1; cases h1
 ·exact h1
theorem vcAny_all (hO : OwnSound P G) {A : List Nat} (hA : ∀ j i, (A.getD j 0).testBit i = true → Anc ops i j) {k : Sig → Prop} : ∀ (f : Nat) (L : Array Bool) (σ : Sig), Closed ops L →
  vcAny P G m ops A late f L σ k → AllOrd P G m ops late f L σ k
 | 0, L, σ, _, h => by
  unfold vcAny at h
  split at h
  ·rename_i hr; exact ⟨hr, h⟩
  ·exact h.elim
 | f + 1, L, σ, hL, h => by
  unfold vcAny at h
  split at h
  ·rename_i hr
   exact ⟨fun _ => h, fun j hj => by rw [hr] at hj; cases hj⟩
  ·rename_i hne
   split at h
   ·rename_i i hf
    have hmem := List.mem_of_find?_eq_some hf
    have he := List.find?_some hf
    split at h
    ·rename_i o ho
     unfold eagerB at he
     rw [ho] at he
     simp only [Bool.and_eq_true] at he
     obtain ⟨x, h1, h2⟩ := eager_take he.1 h
     exact first ho f L σ hL (okI_spec hA he.2) hmem he.1 h1 (vcAny_all hO hA f _ _ (hL.set hmem) h2)
    ·exact h.elim
   ·refine ⟨fun hr => (hne hr).elim, fun j hj o ho => ?_⟩
    have := (allOf_iff _ _).1 h j hj
    rw [ho] at this
    exact stepJ_mono hO (fun σ' h' => vcAny_all hO hA f _ _ (hL.set hj) h') this
section
variable {E : Env} {r : Option Nat} {n : Nat}
theorem allOrd_sound (hO : OwnSound P E.G) (hY : YldSound P E) {Q : Exit → Act → World → Prop} {k : Sig → Prop} (hK : ∀ σ' a' w', k σ' → St E σ' a' w' → Q .normal a' w') : ∀ (f : Nat) (L : Array Bool) {σ : Sig} {a : Act} {w : World},
  AllOrd P E.G m ops late f L σ k → St E σ a w → wpAnyIn (FW r) n P .any ops.toArray Q f L a w
 | 0, _, _, _, _, h, hst => ⟨h.1, hK _ _ _ h.2 hst⟩
 | f + 1, L, σ, a, w, h, hst => by
  refine ⟨fun hr => hK _ _ _ (h.1 hr) hst, fun j hj => ?_⟩
  obtain ⟨_, o, ho, _⟩ := mem_ready.1 hj
  have ho' := ho
  rw [List.getElem?_toArray] at ho'
  have hv := stepJ_op (h.2 j hj o ho')
  have key : ∀ σ' a' w', AllOrd P E.G m ops late f (L.setIfInBounds j true) σ' k → St E σ' a' w' → wpAnyIn (FW r) n P .any ops.toArray Q f (L.setIfInBounds j true) a' w' :=
   fun σ' a' w' hv' hst' => allOrd_sound hO hY hK f _ hv' hst'
  unfold wpOpIn
  rw [ho]
  simp only [vcOp] at hv ⊢
  cases hg : o.guard with
  | none =>
   rw [hg] at hv
   simp only [Region.wanted, hg, if_true]
   exact vcU_sound hO hY hv hst key
  | some jw =>
   obtain ⟨j', want⟩ := jw
   rw [hg] at hv
   simp only at hv
   split at hv
   ·rename_i g hga
    have hw : Region.wanted o (yielded ops.toArray a.tmps) = g := by
     obtain ⟨S, ρ, _, hF, _⟩ := hst
     simp only [Region.wanted, hg]
     exact guard_sound hga hF
    obtain ⟨h1, h2⟩ := vcGX_sound (r := r) (n := n) (Q := Q) hO hY hv hst key
    rw [hw]
    cases g with
    | true => rw [if_pos rfl]; exact h1 rfl
    | false => rw [if_neg (by simp)]; exact ⟨fun _ _ => trivial, h2 rfl⟩
   ·exact hv.elim
theorem St.drew {σ : Sig} {a : Act} {w : World} (h : St E σ a w) : St E σ a { w with drawn := w.drawn + 1 } := by
 obtain ⟨S, ρ, hM, hF, hD⟩ := h
 have hS : ∀ b, S b → S b ∧ ({ w with drawn := w.drawn + 1 } : World).heap[b]? = w.heap[b]? := fun b hb => ⟨hb, rfl⟩
 exact ⟨S, ρ, ⟨⟨hM.fr.os, hM.fr.tape, hM.fr.output, hM.fr.size, hM.fr.block, Nat.le_succ_of_le hM.fr.drawn⟩, hM.sb, hM.sup, hM.sub, hM.glob, hM.hi,
  fun k hk => (hM.ok k hk).mono hS (OwnLe.refl _) fun _ _ => rfl, hM.own, hM.dis, hM.b0, hM.nbz, hM.ole⟩, hF.mono hS (OwnLe.refl _), hD.mono hS⟩
def lateTail (j : Nat) : List Oper → List Nat → Bool
 | o :: os, a :: as => (a.testBit j || (match o.op with | .move _ => true | _ => false)) && lateTail j os as
 | _, _ => true
def lateHead (m : Nat) : Nat → List Oper → Bool
 | 0, _ => true
 | _, [] => true
 | j + 1, o :: os => (m.testBit 0 || (match o.op with | .move _ => true | _ => false)) && lateHead (m / 2) j os
def lateOf (G : Cx) (ops : List Oper) (A : List Nat) (j : Nat) : Bool :=
 match ops[j]? with
 | some o =>
  match o.op with
  | .store _ _ _ => true
  | .call { callee := .value (.func f), .. } => (G.own f).isSome || (Nat.beq ((A.getD j 0) &&& (2 ^ j - 1)) (2 ^ j - 1) && lateTail j (ops.drop (j + 1)) (A.drop (j + 1)))
  | .call { callee := .builtin .append, .. } => lateHead (A.getD j 0) j ops
  | _ => Nat.beq ((A.getD j 0) &&& (2 ^ j - 1)) (2 ^ j - 1) && lateTail j (ops.drop (j + 1)) (A.drop (j + 1))
 | none => false
def isApp (o : Oper) : Bool :=
 match o.op with
 | .call { callee := .builtin .append, .. } => true
 | _ => false
def forceN {α : Sort u} : Nat → (Nat → α) → α
 | 0, k => k 0
 | n + 1, k => forceN n fun m => k (Nat.succ m)
theorem forceN_eq {α : Sort u} : ∀ (n : Nat) (k : Nat → α), forceN n k = k n
 | 0, _ => rfl
 | n + 1, k => forceN_eq n _
def regB (σ : Sig) : Nat := bif isApp1 (σ.bl (σ.nb - 1)) then σ.nb - 1 else σ.nb
def vcDraw (P : Program) (G : Cx) (ops : List Oper) (σ : Sig) (k : Sig → Prop) : Prop :=
 match ops.any isApp with
 | true => forceN (regB σ) fun m => vcAny P G (some m) ops (ancL ops []) (lateOf G ops (ancL ops [])) ops.length (Array.replicate ops.length false) σ k
 | false => vcAny P G none ops (ancL ops []) (lateOf G ops (ancL ops [])) ops.length (Array.replicate ops.length false) σ k
theorem draw_sound (hO : OwnSound P E.G) (hY : YldSound P E) {id : Nat} {ops : Array Oper} {σ : Sig} {a : Act} {w : World} {k : Sig → Prop} {Q : Exit → Act → World → Prop} (hm : P.follows .mixedOrders = true) (hv : vcDraw P E.G ops.toList σ k) (hst : St E σ a w)
  (hK : ∀ σ' a' w', k σ' → St E σ' a' w' → Q .normal a' w') : (Code.region id ops true).wpIn (FW r) n P Q a w := by
 refine wpIn_region_any hm ?_
 obtain ⟨m, hv⟩ : ∃ m, vcAny P E.G m ops.toList (ancL ops.toList []) (lateOf E.G ops.toList (ancL ops.toList [])) ops.toList.length (Array.replicate ops.toList.length false) σ k := by
  unfold vcDraw at hv
  split at hv
  ·rw [forceN_eq] at hv; exact ⟨_, hv⟩
  ·exact ⟨_, hv⟩
 have h1 := vcAny_all hO (ancL_spec ops.toList [] (by simp) fun j i h => by simp at h) _ _ _ (fun j o _ hL => by simp [Array.getD_eq_getD_getElem?, Array.getElem?_replicate] at hL; split at hL <;> simp at hL) hv
 have := allOrd_sound hO hY (r := r) (n := n) (Q := Q) hK _ _ h1 hst.drew
 simpa using this
end
end
end Go.Sx

namespace Go.Sx
universe u
open Go Go.RowKit
def vEq : Value → Value → Prop
 | .int k a, .int k' b => k = k' ∧ a = b
 | .bool a, .bool b => a = b
 | x, y => x = y
theorem vEq_eq {x y : Value} (h : vEq x y) : x = y := by
 unfold vEq at h
 split at h
 ·rw [h.1, h.2]
 ·rw [h]
 ·exact h
def allB (p : Nat → Prop) : Nat → Prop
 | 0 => True
 | 1 => p 0
 | n + 1 => allB p n ∧ p n
theorem allB_at {p : Nat → Prop} {n : Nat} (h : allB p n) : ∀ i, i < n → p i := by
 induction n with
 | zero => intro i hi; omega
 | succ n ih =>
  intro i hi
  cases n with
  | zero =>
   have : i = 0 := by omega
   rw [this]; exact h
  | succ n =>
   by_cases e : i = n + 1
   ·rw [e]; exact h.2
   ·exact ih h.1 i (by omega)
def avM : AV → AV → Prop
 | .v a, y =>
  match y with
  | .junk => True
  | .v b => vEq a b
  | .xl _ _ len _ => a = .slice none 0 0 ∧ len = 0
  | _ => False
 | .str a, y =>
  match y with
  | .junk => True
  | .str b => a = b
  | _ => False
 | .xl f sz len els, y =>
  match y with
  | .junk => True
  | .xl f' sz' len' els' => (f' = true → f = true) ∧ sz' = sz ∧ len' = len ∧ ∀ i j, i < len → j < sz → avM (els i j) (els' i j)
  | _ => False
 | .xq n cells off, y =>
  match y with
  | .junk => True
  | .xq n' cells' off' => n' = n ∧ off' = off ∧ allB (fun i => avM (cells i) (cells' i)) n
  | _ => False
 | .np k o, y =>
  match y with
  | .junk => True
  | .np k' o' => k' = k ∧ o' = o
  | _ => False
 | .ns k o l, y =>
  match y with
  | .junk => True
  | .ns k' o' l' => k' = k ∧ o' = o ∧ l' = l
  | _ => False
 | .ap k i j, y =>
  match y with
  | .junk => True
  | .ap k' i' j' => k' = k ∧ i' = i ∧ j' = j
  | _ => False
 | .agg n cs, y =>
  match y with
  | .junk => True
  | .agg n' cs' => n' = n ∧ allB (fun i => avM (cs i) (cs' i)) n
  | _ => False
 | .tup n cs, y =>
  match y with
  | .junk => True
  | .tup n' cs' => n' = n ∧ allB (fun i => avM (cs i) (cs' i)) n
  | _ => False
 | .fn f nf a nc b, y =>
  match y with
  | .junk => True
  | .fn f' nf' a' nc' b' => f' = f ∧ nf' = nf ∧ nc' = nc ∧ allB (fun i => avM (a i) (a' i)) nf ∧ allB (fun i => avM (b i) (b' i)) nc
  | _ => False
 | .gd g x, y =>
  match y with
  | .junk => True
  | .gd g' x' => g' = g ∧ avM x x'
  | y => g = true ∧ avM x y
 | .yl k, y =>
  match y with
  | .junk => True
  | .yl k' => k' = k
  | _ => False
 | .nb p z, y =>
  match y with
  | .junk => True
  | .nb p' z' => p' = p ∧ (z = true → z' = true)
  | _ => False
 | .junk, y =>
  match y with
  | .junk => True
  | _ => False
section
variable {w : World} {S : Nat → Prop}
theorem avM_sound {x y : AV} {v : Value} {ρ : Nat → Own} (hx : Rel w S ρ x v) (h : avM x y) : Rel w S ρ y v := by
 induction hx generalizing y with
 | v x =>
  unfold avM at h
  split at h
  ·exact .junk _
  ·rw [← vEq_eq h]; exact .v _
  ·obtain ⟨rfl, rfl⟩ := h
   exact .xl none 0 (fun _ _ => undef) (Nat.le_refl _) (Nat.zero_le _) (fun _ => rfl) (fun i j hi _ => absurd hi (Nat.not_lt_zero _)) fun i j hi _ => absurd hi (Nat.not_lt_zero _)
  ·exact h.elim
 | str l =>
  unfold avM at h
  split at h
  ·exact .junk _
  ·rw [← h]; exact .str _
  ·exact h.elim
 | xl o cap cvs hle hm hf hc hr ih =>
  unfold avM at h
  split at h
  ·exact .junk _
  ·obtain ⟨h1, rfl, rfl, h4⟩ := h
   exact .xl o cap cvs hle hm (fun e => hf (h1 e)) hc fun i j hi hj => ih i j hi hj (h4 i j hi hj)
  ·exact h.elim
 | xq A cvs hc hr ih =>
  unfold avM at h
  split at h
  ·exact .junk _
  ·obtain ⟨rfl, rfl, h4⟩ := h
   exact .xq A cvs hc fun i hi => ih i hi (allB_at h4 i hi)
  ·exact h.elim
 | np g h0 =>
  unfold avM at h
  split at h
  ·exact .junk _
  ·obtain ⟨rfl, rfl⟩ := h; exact .np g h0
  ·exact h.elim
 | ns g base cap sz L h0 hl hc =>
  unfold avM at h
  split at h
  ·exact .junk _
  ·obtain ⟨rfl, rfl, rfl⟩ := h; exact .ns g base cap sz L h0 hl hc
  ·exact h.elim
 | ns0 g base cap sz L A h0 hl hc hz =>
  unfold avM at h
  split at h
  ·exact .junk _
  ·obtain ⟨rfl, rfl, rfl⟩ := h; exact .ns0 g base cap sz L A h0 hl hc hz
  ·exact h.elim
 | nsn sz o h0 =>
  unfold avM at h
  split at h
  ·exact .junk _
  ·obtain ⟨rfl, rfl, rfl⟩ := h; exact .nsn sz o h0
  ·exact h.elim
 | ap g base cap sz L h0 hi hc =>
  unfold avM at h
  split at h
  ·exact .junk _
  ·obtain ⟨rfl, rfl, rfl⟩ := h; exact .ap g base cap sz L h0 hi hc
  ·exact h.elim
 | nsr g cap sz L sub h0 hl hc =>
  unfold avM at h
  split at h
  ·exact .junk _
  ·obtain ⟨rfl, rfl, rfl⟩ := h; exact .nsr g cap sz L sub h0 hl hc
  ·exact h.elim
 | nsv q o cap h0 =>
  unfold avM at h
  split at h
  ·exact .junk _
  ·obtain ⟨rfl, rfl, rfl⟩ := h; exact .nsv q o cap h0
  ·exact h.elim
 | apr g cap sz L sub h0 hi hc =>
  unfold avM at h
  split at h
  ·exact .junk _
  ·obtain ⟨rfl, rfl, rfl⟩ := h; exact .apr g cap sz L sub h0 hi hc
  ·exact h.elim
 | yl g r h0 =>
  unfold avM at h
  split at h
  ·exact .junk _
  ·rw [h]; exact .yl g r h0
  ·exact h.elim
 | dyl h0 hx =>
  unfold avM at h
  split at h
  ·exact .junk _
  ·rw [h]; exact .dyl h0 hx
  ·exact h.elim
 | dnp h0 hx =>
  unfold avM at h
  split at h
  ·exact .junk _
  ·obtain ⟨rfl, rfl⟩ := h; exact .dnp h0 hx
  ·exact h.elim
 | dns h0 hx =>
  unfold avM at h
  split at h
  ·exact .junk _
  ·obtain ⟨rfl, rfl, rfl⟩ := h; exact .dns h0 hx
  ·exact h.elim
 | dap h0 hx =>
  unfold avM at h
  split at h
  ·exact .junk _
  ·obtain ⟨rfl, rfl, rfl⟩ := h; exact .dap h0 hx
  ·exact h.elim
 | agg vs hn hr ih =>
  unfold avM at h
  split at h
  ·exact .junk _
  ·obtain ⟨rfl, h2⟩ := h; exact .agg vs hn fun i hi => ih i hi (allB_at h2 i hi)
  ·exact h.elim
 | tup vs hn hr ih =>
  unfold avM at h
  split at h
  ·exact .junk _
  ·obtain ⟨rfl, h2⟩ := h; exact .tup vs hn fun i hi => ih i hi (allB_at h2 i hi)
  ·exact h.elim
 | fn vs us hn hm hr hs ih1 ih2 =>
  unfold avM at h
  split at h
  ·exact .junk _
  ·obtain ⟨rfl, rfl, rfl, h4, h5⟩ := h
   exact .fn vs us hn hm (fun i hi => ih1 i hi (allB_at h4 i hi)) fun i hi => ih2 i hi (allB_at h5 i hi)
  ·exact h.elim
 | gd v h1 h2 ih =>
  unfold avM at h
  split at h
  ·exact .junk _
  ·obtain ⟨rfl, h4⟩ := h; exact .gd v (fun hg => ih hg h4) h2
  ·exact ih h.1 h.2
 | nb t h0 =>
  unfold avM at h
  split at h
  ·exact .junk _
  ·obtain ⟨rfl, h2⟩ := h; exact .nb t fun e => h2 (h0 e)
  ·exact h.elim
 | junk x =>
  unfold avM at h
  split at h
  ·exact .junk _
  ·exact h.elim
theorem avM_refl : ∀ x : AV, avM x x
 | .v a => by
  show vEq a a
  cases a with
  | int => exact ⟨rfl, rfl⟩
  | bool => exact (rfl : _ = _)
  | _ => exact (rfl : _ = _)
 | .str a => rfl
 | .xl f sz len els => ⟨fun h => h, rfl, rfl, fun i j _ _ => avM_refl _⟩
 | .xq n cells off => ⟨rfl, rfl, by
  have h : ∀ i, avM (cells i) (cells i) := fun i => avM_refl _
  induction n with
  | zero => trivial
  | succ n ih => cases n with
   | zero => exact h 0
   | succ n => exact ⟨ih, h _⟩⟩
 | .np k o => ⟨rfl, rfl⟩
 | .ns k o l => ⟨rfl, rfl, rfl⟩
 | .ap k i j => ⟨rfl, rfl, rfl⟩
 | .agg n cs => ⟨rfl, by
  have h : ∀ i, avM (cs i) (cs i) := fun i => avM_refl _
  induction n with
  | zero => trivial
  | succ n ih => cases n with
   | zero => exact h 0
   | succ n => exact ⟨ih, h _⟩⟩
 | .tup n cs => ⟨rfl, by
  have h : ∀ i, avM (cs i) (cs i) := fun i => avM_refl _
  induction n with
  | zero => trivial
  | succ n ih => cases n with
   | zero => exact h 0
   | succ n => exact ⟨ih, h _⟩⟩
 | .fn f nf a nc b => ⟨rfl, rfl, rfl, by
  have h : ∀ i, avM (a i) (a i) := fun i => avM_refl _
  induction nf with
  | zero => trivial
  | succ n ih => cases n with
   | zero => exact h 0
   | succ n => exact ⟨ih, h _⟩, by
  have h : ∀ i, avM (b i) (b i) := fun i => avM_refl _
  induction nc with
  | zero => trivial
  | succ n ih => cases n with
   | zero => exact h 0
   | succ n => exact ⟨ih, h _⟩⟩
 | .gd g x => ⟨rfl, avM_refl x⟩
 | .yl k => (rfl : k = k)
 | .nb p z => ⟨rfl, fun h => h⟩
 | .junk => trivial
theorem avM_of_eq {x y : AV} (h : x = y) : avM x y := h ▸ avM_refl x
end
def invK : List (Option Nat) → Nat → Nat → Option Nat
 | [], _, _ => none
 | o :: os, i, k =>
  match o with
  | some k' => bif Nat.beq k' k then some i else invK os (i + 1) k
  | none => invK os (i + 1) k
def ren (inv : Nat → Option Nat) : AV → AV
 | .np k o =>
  match inv k with
  | some i => .np i o
  | none => .junk
 | .ns k o l =>
  match inv k with
  | some i => .ns i o l
  | none => .junk
 | .ap k i j =>
  match inv k with
  | some k' => .ap k' i j
  | none => .junk
 | .agg n cs => .agg n fun i => ren inv (cs i)
 | .tup n cs => .tup n fun i => ren inv (cs i)
 | .fn f nf a nc b => .fn f nf (fun i => ren inv (a i)) nc fun i => ren inv (b i)
 | .gd g x => .gd g (ren inv x)
 | .yl k =>
  match inv k with
  | some i => .yl i
  | none => .junk
 | x => x
theorem ren_rel {w : World} {S : Nat → Prop} {ρ ρ' : Nat → Own} {inv : Nat → Option Nat} {x : AV} {v : Value} (hi : ∀ k i, inv k = some i → ρ' i = ρ k ∨ ρ' i = .dead) (h : Rel w S ρ x v) :
  Rel w S ρ' (ren inv x) v := by
 induction h with
 | v x => exact .v x
 | str l => exact .str l
 | xl o cap cvs hle hm hf hc hr ih => exact .xl o cap cvs hle hm hf hc hr
 | xq A cvs hc hr ih => exact .xq A cvs hc hr
 | np g h =>
  simp only [ren]
  split
  ·rename_i i e
   rcases hi _ _ e with e' | e'
   ·exact .np g (e'.trans h)
   ·exact .dnp e' ⟨_, rfl⟩
  ·exact .junk _
 | ns g base cap sz L h hl hc =>
  simp only [ren]
  split
  ·rename_i i e
   rcases hi _ _ e with e' | e'
   ·exact .ns g base cap sz L (e'.trans h) hl hc
   ·exact .dns e' ⟨_, _, rfl⟩
  ·exact .junk _
 | ns0 g base cap sz L A h hl hc h0 =>
  simp only [ren]
  split
  ·rename_i i e
   rcases hi _ _ e with e' | e'
   ·exact .ns0 g base cap sz L A (e'.trans h) hl hc h0
   ·exact .dns e' ⟨_, _, rfl⟩
  ·exact .junk _
 | nsn sz o h =>
  simp only [ren]
  split
  ·rename_i i e
   rcases hi _ _ e with e' | e'
   ·exact .nsn sz o (e'.trans h)
   ·exact .dns e' ⟨_, _, rfl⟩
  ·exact .junk _
 | ap g base cap sz L h hl hc =>
  simp only [ren]
  split
  ·rename_i i e
   rcases hi _ _ e with e' | e'
   ·exact .ap g base cap sz L (e'.trans h) hl hc
   ·exact .dap e' ⟨_, rfl⟩
  ·exact .junk _
 | nsr g cap sz L sub h hl hc =>
  simp only [ren]
  split
  ·rename_i i e
   rcases hi _ _ e with e' | e'
   ·exact .nsr g cap sz L sub (e'.trans h) hl hc
   ·exact .dns e' ⟨_, _, rfl⟩
  ·exact .junk _
 | nsv q o cap h =>
  simp only [ren]
  split
  ·rename_i i e
   rcases hi _ _ e with e' | e'
   ·exact .nsv q o cap (e'.trans h)
   ·exact .dns e' ⟨_, _, rfl⟩
  ·exact .junk _
 | apr g cap sz L sub h hl hc =>
  simp only [ren]
  split
  ·rename_i i e
   rcases hi _ _ e with e' | e'
   ·exact .apr g cap sz L sub (e'.trans h) hl hc
   ·exact .dap e' ⟨_, rfl⟩
  ·exact .junk _
 | yl g r h =>
  simp only [ren]
  split
  ·rename_i i e
   rcases hi _ _ e with e' | e'
   ·exact .yl g r (e'.trans h)
   ·exact .dyl e' ⟨_, rfl⟩
  ·exact .junk _
 | dyl h hx =>
  simp only [ren]
  split
  ·rename_i i e
   rcases hi _ _ e with e' | e'
   ·exact .dyl (e'.trans h) hx
   ·exact .dyl e' hx
  ·exact .junk _
 | dnp h hx =>
  simp only [ren]
  split
  ·rename_i i e
   rcases hi _ _ e with e' | e'
   ·exact .dnp (e'.trans h) hx
   ·exact .dnp e' hx
  ·exact .junk _
 | dns h hx =>
  simp only [ren]
  split
  ·rename_i i e
   rcases hi _ _ e with e' | e'
   ·exact .dns (e'.trans h) hx
   ·exact .dns e' hx
  ·exact .junk _
 | dap h hx =>
  simp only [ren]
  split
  ·rename_i i e
   rcases hi _ _ e with e' | e'
   ·exact .dap (e'.trans h) hx
   ·exact .dap e' hx
  ·exact .junk _
 | agg vs hn hr ih => exact .agg vs hn fun i h => ih i h hi
 | tup vs hn hr ih => exact .tup vs hn fun i h => ih i h hi
 | fn vs us hn hm hr hs ih1 ih2 => exact .fn vs us hn hm (fun i h => ih1 i h hi) fun i h => ih2 i h hi
 | gd v h h' ih => exact .gd v (fun h => ih h hi) h'
 | nb t h => exact .nb t h
 | junk x => exact .junk x
def tmM (ks : List (Option Nat)) (x y : AV) : Prop :=
 match x, y with
 | .v (.slice none 0 0), .ns i o l => ks[i]? = some none ∧ o = 0 ∧ l = 0
 | .xl f _ len _, .ns i o l => ks[i]? = some none ∧ o = 0 ∧ l = 0 ∧ f = true ∧ len = 0
 | x, y => avM (ren (invK ks 0) x) y
def rowM : AV → AV → Prop
 | .xl false s n el, y =>
  match y with
  | .xl false s' n' el' => s' = s ∧ n' = n ∧ ∀ i j, i < n → j < s → avM (el i j) (el' i j)
  | _ => False
 | _, _ => False
theorem RowOK.told {w : World} {S : Nat → Prop} {te : TypeId} {ssz : Nat} {x y : AV} {v : Value} {o : Option Nat} (h : RowOK w S te ssz x v o) (hm : rowM x y) : RowOK w S te ssz y v o := by
 unfold rowM at hm
 split at hm
 ·split at hm
  ·rename_i s n el s' n' el'
   obtain ⟨rfl, rfl, h3⟩ := hm
   cases o with
   | none =>
    obtain ⟨n2, el2, q1, q2⟩ := h
    cases q1
    refine ⟨_, _, rfl, avM_sound q2 ?_⟩
    unfold avM
    exact ⟨fun _ => rfl, rfl, rfl, h3⟩
   | some g =>
    obtain ⟨n2, el2, cap, c, q1, q2, q3, q4, q5, q6, q7⟩ := h
    cases q1
    exact ⟨_, _, cap, c, rfl, q2, q3, q4, q5, q6, fun i j hi hj => ⟨avM_sound (q7 i j hi hj).1 (h3 i j hi hj), (q7 i j hi hj).2⟩⟩
  ·exact hm.elim
 ·exact hm.elim
def outM (ks : List (Option Nat)) : Option (Nat × AV) → Option (Nat × AV) → Prop
 | none, none => True
 | some (i, y), some (i', y') => i' = i ∧ tmM ks y y'
 | _, _ => False
def obM (ks : List (Option Nat)) : OB → OB → Prop
 | _, .dead => True
 | .box t n cells, .box t' n' cells' => t' = t ∧ n' = n ∧ allB (fun i => tmM ks (cells i) (cells' i)) n
 | .arr t sz len els, .arr t' sz' len' els' => t' = t ∧ sz' = sz ∧ len' = len ∧ ∀ i j, i < len → j < sz → avM (els i j) (els' i j)
 | .lrec st pend, .lrec st' pend' => st' = st ∧ pend' = pend
 | .rows t sz len col te ssz els out, .rows t' sz' len' col' te' ssz' els' out' => ((t' = t ∧ sz' = sz ∧ len' = len) ∧ col' = col ∧ te' = te ∧ ssz' = ssz) ∧ outM ks out out' ∧ (∀ i, i < len → rowM (els i col) (els' i col)) ∧
   ∀ i j, i < len → j < sz → j ≠ col → avM (els i j) (els' i j)
 | .app te ssz len els, .app te' ssz' len' els' => te' = te ∧ ssz' = ssz ∧ len' = len ∧ ∀ i j, i < len → j < ssz → avM (els i j) (els' i j)
 | _, _ => False
def nilM : OB → Prop
 | .dead => True
 | .arr _ _ len _ => len = 0
 | .rows _ _ len _ _ _ _ out => len = 0 ∧ out = none
 | _ => False
def isDead : OB → Bool
 | .dead => true
 | _ => false
def distinct : List (Option Nat) → Bool
 | [] => true
 | some k :: ks => !ks.contains (some k) && distinct ks
 | none :: ks => distinct ks
def inB (nb : Nat) : List (Option Nat) → Bool
 | [] => true
 | some k :: ks => Nat.blt k nb && inB nb ks
 | none :: ks => inB nb ks
def lk (vars : List (Nat × AV)) (t : Nat) : AV :=
 match vars with
 | [] => .junk
 | (t', x) :: vs => bif Nat.beq t' t then x else lk vs t
def lkB (blks : List (Nat × OB)) (d : Nat → OB) (t : Nat) : OB :=
 match blks with
 | [] => d t
 | (t', x) :: vs => bif Nat.beq t' t then x else lkB vs d t
def guess1 (σ : Sig) (i : Nat) : List (Nat × AV) → Option Nat
 | [] => some i
 | (t, x) :: vs =>
  match x.top with
  | some k => bif Nat.beq k i then (σ.ev (.tmp t)).strip.top else guess1 σ i vs
  | none => guess1 σ i vs
def guess0 (σ : Sig) (i : Nat) : List (Nat × AV) → Option Nat
 | [] => none
 | (t, x) :: vs =>
  match x.top with
  | some k => bif Nat.beq k i then (σ.ev (.tmp t)).strip.top else guess0 σ i vs
  | none => guess0 σ i vs
def guessBox (σ : Sig) (vars : List (Nat × AV)) (bl : Nat → OB) (i : Nat) : Nat → Option Nat
 | 0 => none
 | t + 1 =>
  match bl t, σ.bl ((guess1 σ t vars).getD t) with
  | .box _ n cs, .box _ _ cs' =>
   match (List.range n).findSome? (fun j => match (cs j).top with | some k => bif Nat.beq k i then (cs' j).strip.top else none | none => none) with
   | some k => some k
   | none => guessBox σ vars bl i t
  | _, _ => guessBox σ vars bl i t
def aliveO (σ : Sig) : Option Nat → Option Nat
 | some k => bif Nat.blt k σ.nb && !isDead (σ.bl k) then some k else none
 | none => none
def guess (σ : Sig) (vars : List (Nat × AV)) (bl : Nat → OB) (nb : Nat) : List (Option Nat) :=
 (List.range nb).map fun i => bif isDead (bl i) then none else
  match aliveO σ (guess0 σ i vars) with
  | some k => some k
  | none =>
   match aliveO σ (guessBox σ vars bl i nb) with
   | some k => some k
   | none => aliveO σ (guess1 σ i vars)
def allL {α : Type} (p : α → Prop) : List α → Prop
 | [] => True
 | [x] => p x
 | x :: xs => p x ∧ allL p xs
theorem allL_mem {α : Type} {p : α → Prop} {l : List α} (h : allL p l) : ∀ x ∈ l, p x := by
 induction l with
 | nil => intro x hx; cases hx
 | cons y ys ih =>
  cases ys with
  | nil => intro x hx; rw [List.mem_singleton.1 hx]; exact h
  | cons z zs =>
   intro x hx
   rcases List.mem_cons.1 hx with e | e
   ·rw [e]; exact h.1
   ·exact ih h.2 x e
def headSig (n nb : Nat) (vars : List (Nat × AV)) (bl : Nat → OB) : Sig := { n := n, tm := lk vars, nb := nb, bl := bl }
def keepB (nb0 : Nat) (ks : List (Option Nat)) (bl : Nat → OB) : Bool :=
 (List.range nb0).all fun i => isDead (bl i) || match ks[i]? with
  | some (some k) => Nat.beq k i
  | _ => false
def forceL {α : Sort u} : List (Option Nat) → (List (Option Nat) → α) → α
 | [], k => k []
 | none :: l, k => forceL l fun l' => k (none :: l')
 | some n :: l, k => forceN n fun m => forceL l fun l' => k (some m :: l')
theorem forceL_eq {α : Sort u} : ∀ (l : List (Option Nat)) (k : List (Option Nat) → α), forceL l k = k l
 | [], _ => rfl
 | none :: l, k => forceL_eq l _
 | some n :: l, k => by
  unfold forceL
  rw [forceN_eq, forceL_eq]
def matchK (ks : List (Option Nat)) (n nb0 : Nat) (σ : Sig) (vars : List (Nat × AV)) (bl : Nat → OB) (nb : Nat) (more : Prop) : Prop :=
 match (Nat.beq σ.n n && (Nat.ble nb0 nb && keepB nb0 ks bl)) && (distinct ks && inB σ.nb ks) with
 | true => (more ∧ allL (fun p : Nat × AV => tmM ks (σ.ev (.tmp p.1)) p.2) vars) ∧
   allB (fun i => match ks[i]? with
    | some (some k) => obM ks (σ.bl k) (bl i)
    | _ => nilM (bl i)) nb
 | false => False
def matchV (n nb0 : Nat) (σ : Sig) (vars : List (Nat × AV)) (bl : Nat → OB) (nb : Nat) (more : Prop) : Prop :=
 forceL (guess σ vars bl nb) fun ks => matchK ks n nb0 σ vars bl nb more
section
variable {E : Env} {w : World} {S : Nat → Prop} {ρ : Nat → Own}
theorem invK_spec {ks : List (Option Nat)} {i0 k i : Nat} (h : invK ks i0 k = some i) : i0 ≤ i ∧ ks[i - i0]? = some (some k) := by
 induction ks generalizing i0 with
 | nil => cases h
 | cons o os ih =>
  simp only [invK] at h
  have step : invK os (i0 + 1) k = some i → i0 ≤ i ∧ (o :: os)[i - i0]? = some (some k) := fun h => by
   obtain ⟨h1, h2⟩ := ih h
   refine ⟨by omega, ?_⟩
   rw [show i - i0 = (i - (i0 + 1)) + 1 by omega, List.getElem?_cons_succ]
   exact h2
  split at h
  ·rename_i k'
   cases hb : Nat.beq k' k with
   | true =>
    rw [hb] at h
    cases h
    refine ⟨Nat.le_refl _, ?_⟩
    rw [Nat.eq_of_beq_eq_true hb]
    simp
   | false => rw [hb] at h; exact step h
  ·exact step h
theorem distinct_spec {ks : List (Option Nat)} (h : distinct ks = true) : ∀ (i j k : Nat), ks[i]? = some (some k) → ks[j]? = some (some k) → i = j := by
 induction ks with
 | nil => intro i j k hi; simp at hi
 | cons o os ih =>
  intro i j k hi hj
  have hos : distinct os = true := by cases o with
   | none => exact h
   | some k => simp only [distinct, Bool.and_eq_true] at h; exact h.2
  have hne : o = some k → ∀ m, os[m]? ≠ some (some k) := fun e m hm => by
   subst e
   simp only [distinct, Bool.and_eq_true, Bool.not_eq_true', List.contains_eq_mem, decide_eq_false_iff_not] at h
   exact h.1 (List.mem_of_getElem? hm)
  cases i with
  | zero => cases j with
   | zero => rfl
   | succ j => simp at hi hj; exact (hne hi j hj).elim
  | succ i => cases j with
   | zero => simp at hi hj; exact (hne hj i hi).elim
   | succ j => simp at hi hj; rw [ih hos i j k hi hj]
theorem inB_spec {ks : List (Option Nat)} {nb : Nat} (h : inB nb ks = true) : ∀ k, some k ∈ ks → k < nb := by
 induction ks with
 | nil => intro k hk; cases hk
 | cons o os ih =>
  intro k hk
  cases o with
  | none =>
   rcases List.mem_cons.1 hk with e | e
   ·cases e
   ·exact ih h k e
  | some k' =>
   simp only [inB, Bool.and_eq_true] at h
   rcases List.mem_cons.1 hk with e | e
   ·cases e; exact Nat.le_of_ble_eq_true h.1
   ·exact ih h.2 k e
def rho' (ks : List (Option Nat)) (bl : Nat → OB) (ρ : Nat → Own) (nb i : Nat) : Own :=
 if i < nb then
  match bl i, ks[i]? with
  | .dead, _ => .dead
  | _, some (some k) => ρ k
  | .arr _ sz _ _, _ => .nila sz
  | .rows _ sz _ _ _ _ _ _, _ => .nila sz
  | _, _ => .dead
 else .none
theorem guess_length (σ : Sig) (vars : List (Nat × AV)) (bl : Nat → OB) (nb : Nat) : (guess σ vars bl nb).length = nb := by simp [guess]
theorem tmM_rel {ρ' : Nat → Own} {ks : List (Option Nat)} {x y : AV} {v : Value} (hi : ∀ k i, invK ks 0 k = some i → ρ' i = ρ k ∨ ρ' i = .dead)
  (hn : ∀ i, ks[i]? = some none → ∃ sz, ρ' i = .nila sz ∨ ρ' i = .dead) (hx : Rel w S ρ x v) (h : tmM ks x y) : Rel w S ρ' y v := by
 unfold tmM at h
 split at h
 ·rename_i i o l
  obtain ⟨h1, rfl, rfl⟩ := h
  cases hx
  obtain ⟨sz, e | e⟩ := hn i h1
  ·exact .nsn sz none e
  ·exact .dns e ⟨_, _, rfl⟩
 ·rename_i f sz' len els i o l
  obtain ⟨h1, rfl, rfl, rfl, rfl⟩ := h
  cases hx with
  | xl o cap cvs hle hm hf hc hr =>
   obtain rfl : cap = 0 := hf rfl
   obtain ⟨sz, e | e⟩ := hn i h1
   ·exact .nsn sz o e
   ·exact .dns e ⟨_, _, rfl⟩
 ·exact avM_sound (ren_rel hi hx) h
end
end Go.Sx
