/- Regions in any order: what only computes or reads comes first, the rest in each order that there is. -/
import Derived.Test.YtgpbohfbhfbelaaGreatDoorSxM
set_option linter.unusedSimpArgs false
set_option linter.unusedVariables false
namespace Go.Sx
open Go Go.RowKit
section
variable {P : Program} {G : Cx} {m : Option Nat} {ops : List Oper}
theorem tz {ex : TypeId → (AV → Prop) → Prop} (hex : ∀ t k, ex t k → ∃ r, (∀ k' : AV → Prop, k' r → ex t k') ∧ k r) :
  ∀ (ts : List TypeId) (k : List AV → Prop), WI ex ts k → ∃ r, (∀ k' : List AV → Prop, k' r → WI ex ts k') ∧ k r
 | [], _, h => ⟨[], fun _ h' => h', h⟩
 | t :: ts, k, h => by
  obtain ⟨v, h1, h2⟩ := hex t _ h
  obtain ⟨vs, h3, h4⟩ := tz hex ts _ h2
  exact ⟨v :: vs, fun k' hk => h1 _ (h3 _ hk), h4⟩
theorem qV : ∀ (n : Nat) (t : TypeId) (k : AV → Prop), UQ P n t k → ∃ r, (∀ k' : AV → Prop, k' r → UQ P n t k') ∧ k r
 | 0, _, _, ⟨r, hr⟩ => ⟨r, fun _ h => ⟨r, h⟩, hr⟩
 | n + 1, t, k, h => by
  unfold UQ at h ⊢
  split at h
  ·grind
  ·grind
  ·grind
  ·grind
  ·obtain ⟨vs, h1, h2⟩ := tz (qV n) _ _ h
   grind
  grind
theorem SX {σ : zo} {f : FuncId} {xs : List AV} (h : G.fre f xs = none) : yH G σ f xs = none := by unfold yH; rw [h]
theorem vU {g : Option Bool} {f : FuncId} {xs : List AV} {t : TypeId} {K : AV → Prop} (h : xC P G g f xs t K) : ∃ r, (∀ k' : AV → Prop, k' r → xC P G g f xs t k') ∧ K r := by
 unfold xC at h ⊢
 split at h
 ·rename_i ps r _
  refine ⟨r, fun k' hk' => U4 (fun _ => hk') h, ?_⟩
  cases g with
  | none => exact ((zd _ _).1 h).2
  | some g => exact ((yt _ _ _).1 h).2
 ·obtain ⟨r, h3, h4, h5⟩ := qV 3 _ _ h
  grind
theorem sU {g : Option Bool} {f : FuncId} {xs : List AV} {t : TypeId} {K : AV → Prop} (h : wc P G g f xs t K) : ∃ r, (∀ k' : AV → Prop, k' r → wc P G g f xs t k') ∧ K r := by
 unfold wc at h ⊢
 split at h
 ·split at h
  ·grind
  ·exact h.elim
 ·exact vU h
def Ke (P : Program) (G : Cx) (g : Bool) (q : Option Bool) (σ : zo) (o : Oper) (x : AV) : Prop :=
 (∃ ps, Z1 P G.objs σ.bl σ.ev o.op = some (ps, x) ∧ (g = true → ∀ p ∈ ps, p.holds)) ∨
 (∃ t len parts, o.op = .buildSlice t len parts ∧ ¬ (((parts.toList.map fun p => σ.sv p.2).any AV.hasOwn || ut (parts.toList.map (·.2))) = true) ∧
  ZL P σ t len (parts.toList.map (·.1)) (parts.toList.map fun p => σ.sv p.2) = some (σ, x) ∧ (g = true → ∀ p ∈ ZG σ (parts.toList.map (·.2)), p.holds)) ∨
 (∃ f args ts fid nf first nc cap, o.op = .call { callee := .value f, args, argTypes := ts } ∧ σ.sv f = .fn (.func fid) nf first nc cap ∧
  (g = true → ∀ p ∈ (σ.ev f).gprop ++ ZG σ args.toList, p.holds) ∧ ¬ ((yM nf first (args.toList.map σ.sv) nc cap).any AV.hasOwn = true) ∧
  G.fre fid (yM nf first (args.toList.map σ.sv) nc cap) = none ∧ ∀ k' : AV → Prop, k' x → wc P G q fid (yM nf first (args.toList.map σ.sv) nc cap) o.type k')
def RD (P : Program) (G : Cx) (ops : List Oper) (σ : zo) (o : Oper) (x : AV) : Prop :=
 match o.guard with
 | none => Ke P G true none σ o x
 | some (j, want) => ∃ g x0, yW ops σ j want = some g ∧ x = .gd g x0 ∧ (((G.conc && !g) = true ∧ x0 = tU P o.type) ∨ ((G.conc && !g) = false ∧ Ke P G g (some g) σ o x0))
def xP (G : Cx) (m : Option Nat) (σ : zo) (o : Oper) : Bool :=
 match o.op with
 | .alloc _ | .box _ _ | .store _ _ _ | .makeSlice _ _ _ | .call { callee := .builtin .append, .. } | .mapUpdate _ _ _ _ | .entryStore _ _ _ _ | .mapEntry _ _ _ | .call { callee := .builtin .clear, .. } => false
 | .buildSlice _ _ parts => !(parts.toList.map fun p => σ.sv p.2).any AV.hasOwn
 | .call { callee := .value f, args, .. } =>
  match σ.sv f with
  | .fn (.func fid) nf first nc cap => !(yM nf first (args.toList.map σ.sv) nc cap).any AV.hasOwn && (G.fre fid (yM nf first (args.toList.map σ.sv) nc cap)).isNone && !inl G fid (yM nf first (args.toList.map σ.sv) nc cap)
  | _ => false
 | .move _ => true
 | op => op.operands.toList.all fun x =>
  match (σ.sv x).top with
  | some k => Nat.blt k (RE m σ.nb)
  | none => true
def Rk (G : Cx) (ops : List Oper) (σ : zo) (o : Oper) : Bool :=
 match o.guard with
 | some (j, want) =>
  match yW ops σ j want with
  | some g => G.conc && !g
  | none => false
 | none => false
def y5 (G : Cx) (m : Option Nat) (ops : List Oper) (σ : zo) (o : Oper) : Bool := Rk G ops σ o || xP G m σ o
theorem Qd {σ : zo} {o : Oper} {K : zo → Prop} (he : y5 G m ops σ o = true) (h : XJ P G m ops o σ K) : ∃ x, RD P G ops σ o x ∧ K (σ.put o.dst x) := by
 unfold XJ at h
 unfold RD
 cases hg : o.guard with
 | none =>
  have he : xP G m σ o = true := by
   unfold y5 Rk at he
   rw [hg] at he
   exact he
  rw [hg] at h
  simp only at h ⊢
  unfold uy at h
  unfold xP at he
  split at h
  ·rename_i ho; simp [ho] at he
  ·rename_i ho; simp [ho] at he
  ·exact h.elim
  ·rename_i ho
   split at h
   ·exact h.elim
   ·rename_i hno
    split at h
    ·rename_i hb
     obtain ⟨rfl, _⟩ := YU hb
     rw [zd] at h
     exact ⟨_, .inr (.inl ⟨_, _, _, ho, hno, hb, fun _ => h.1⟩), h.2⟩
    ·exact h.elim
  ·rename_i ho; simp [ho] at he
  ·rename_i f args ts ho
   split at h
   ·rename_i hf
    rw [zd] at h
    obtain ⟨h1, h2⟩ := h
    split at h2
    ·rename_i hown
     simp [ho, hf, hown] at he
    ·rename_i hno
     simp only [ho, hf, Bool.and_eq_true, Option.isNone_iff_eq_none] at he
     rw [SX he.1.2] at h2
     obtain ⟨r, h3, h5⟩ := sU h2
     exact ⟨r, .inr (.inr ⟨f, args, ts, _, _, _, _, _, ho, hf, fun _ => h1, hno, he.1.2, h3⟩), h5⟩
   ·exact h.elim
  ·rename_i ho; simp [ho] at he
  ·split at h
   ·rename_i hd
    rw [zd] at h
    exact ⟨_, .inl ⟨_, hd, fun _ => h.1⟩, h.2⟩
   ·exact h.elim
 | some jw =>
  obtain ⟨j, want⟩ := jw
  rw [hg] at h
  simp only at h ⊢
  split at h
  ·rename_i g hga
   cases hc : G.conc && !g with
   | true =>
    rw [hc] at h
    have hg0 : g = false := by cases g <;> simp_all
    subst hg0
    exact ⟨_, ⟨false, _, hga, rfl, .inl ⟨hc, rfl⟩⟩, h⟩
   | false =>
   rw [hc] at h
   have he : xP G m σ o = true := by
    unfold y5 Rk at he
    rw [hg] at he
    simp only [hga, hc, Bool.false_or] at he
    exact he
   simp only at h
   unfold S7 at h
   unfold xP at he
   split at h
   ·rename_i f args ts ho
    split at h
    ·rename_i hf
     rw [yt] at h
     obtain ⟨h1, h2⟩ := h
     simp only [ho, hf, Bool.and_eq_true, Bool.not_eq_true', Option.isNone_iff_eq_none] at he
     rw [if_neg (by rw [he.1.1]; simp)] at h2
     obtain ⟨r, h3, h5⟩ := sU h2
     exact ⟨_, ⟨g, r, hga, rfl, .inr ⟨hc, .inr (.inr ⟨f, args, ts, _, _, _, _, _, ho, hf, h1, by rw [he.1.1]; simp, he.1.2, h3⟩)⟩⟩, h5⟩
    ·exact h.elim
   ·rename_i ho
    split at h
    ·exact h.elim
    ·rename_i hno
     split at h
     ·rename_i hb
      obtain ⟨rfl, _⟩ := YU hb
      rw [yt] at h
      exact ⟨_, ⟨g, _, hga, rfl, .inr ⟨hc, .inr (.inl ⟨_, _, _, ho, hno, hb, h.1⟩)⟩⟩, h.2⟩
     ·exact h.elim
   ·split at h
    ·rename_i hd
     rw [yt] at h
     exact ⟨_, ⟨g, _, hga, rfl, .inr ⟨hc, .inl ⟨_, hd, h.1⟩⟩⟩, h.2⟩
    ·exact h.elim
  ·exact h.elim
theorem QM {σ : zo} {o : Oper} {x : AV} {K : zo → Prop} (hr : RD P G ops σ o x) (h : K (σ.put o.dst x)) : XJ P G m ops o σ K := by
 unfold RD at hr
 unfold XJ
 cases hg : o.guard with
 | none =>
  rw [hg] at hr
  simp only at hr ⊢
  rcases hr with ⟨ps, h1, h2⟩ | ⟨tb, lb, parts, hob, hnob, heb, hgb⟩ | ⟨f, args, ts, fid, nf, first, nc, cap, ho, hf, h1, h2, hfr, h3⟩
  ·unfold uy
   split
   ·rename_i ho; rw [ho] at h1; simp [Z1, ZQ] at h1
   ·rename_i ho; rw [ho] at h1; simp [Z1, ZQ] at h1
   ·rename_i ho; rw [ho] at h1; simp [Z1, ZQ] at h1
   ·rename_i ho; rw [ho] at h1; simp [Z1, ZQ] at h1
   ·rename_i ho; rw [ho] at h1; simp [Z1, ZQ] at h1
   ·rename_i ho; rw [ho] at h1; simp [Z1, ZQ] at h1
   ·rename_i ho; rw [ho] at h1; simp [Z1, ZQ, R6] at h1
   ·rw [h1]
    simp only
    rw [zd]
    simp_all
  ·simp only [uy, hob, if_neg hnob, heb, zd]
   simp_all
  ·simp only [uy, ho, hf, zd, if_neg h2, SX hfr]
   simp_all
 | some jw =>
  obtain ⟨j, want⟩ := jw
  rw [hg] at hr
  simp only at hr ⊢
  obtain ⟨g, x0, hga, rfl, hr⟩ := hr
  rw [hga]
  simp only
  rcases hr with ⟨hc, rfl⟩ | ⟨hc, hr⟩
  ·simp_all
  rw [hc]
  simp only
  rcases hr with ⟨ps, h1, h2⟩ | ⟨tb, lb, parts, hob, hnob, heb, hgb⟩ | ⟨f, args, ts, fid, nf, first, nc, cap, ho, hf, h1, h2, hfr, h3⟩
  ·unfold S7
   split
   ·rename_i ho; rw [ho] at h1; simp [Z1, ZQ] at h1
   ·rename_i ho; rw [ho] at h1; simp [Z1, ZQ] at h1
   ·rw [h1]
    simp only
    rw [yt]
    simp_all
  ·simp only [S7, hob, if_neg hnob, heb, yt]
   simp_all
  ·simp only [S7, ho, hf, yt, if_neg h2]
   simp_all
theorem yx.guard {σ σ' : zo} {d : Option Tmp} (h : yx m d σ σ') {j : Nat} {want : Bool} (hd : ∀ t, d = some t → (ops[j]?).bind (·.dst) ≠ some t) :
  yW ops σ' j want = yW ops σ j want := by
 unfold yW
 cases ho : ops[j]? with
 | none => rfl
 | some o =>
  simp only
  cases hod : o.dst with
  | none => rfl
  | some t =>
   simp only
   have hne : d ≠ some t := fun e => hd t e (by rw [ho, Option.bind_some, hod])
   rw [h.n, h.tm t hne]
theorem qQ {objs : List (Nat × Obj)} {bl bl' : Nat → OB} {ev : Operand → AV} {y : Operand} : Z1 P objs bl ev (.move y) = Z1 P objs bl' ev (.move y) := rfl
theorem mj {σ σ' : zo} {o : Oper} {x : AV} {d : Option Tmp} (hG : yx m d σ σ') (h1 : ∀ t, d = some t → t ∉ o.looksAt ops.toArray) (he : y5 G m ops σ o = true) (hr : RD P G ops σ o x) :
  RD P G ops σ' o x ∧ y5 G m ops σ' o = true := by
 have hl := XM h1
 have hev : ∀ y ∈ o.op.operands, σ'.ev y = σ.ev y := fun y hy => hG.ev (hl y hy)
 have hsv : ∀ y ∈ o.op.operands, σ'.sv y = σ.sv y := fun y hy => Zr (hev y hy)
 have key : ∀ g q x, xP G m σ o = true → Ke P G g q σ o x → Ke P G g q σ' o x := by
  rintro g q x he (⟨ps, h1, h2⟩ | ⟨tb, lb, parts, hob, hnob, heb, hgb⟩ | ⟨f, args, ts, fid, nf, first, nc, cap, ho, hf, h1, h2, hfr, h3⟩)
  ·refine .inl ⟨ps, ?_, h2⟩
   rw [← h1]
   by_cases hmv : ∃ y, o.op = .move y
   ·obtain ⟨y, ho⟩ := hmv
    rw [ho, ← qQ (bl := σ.bl)]
    exact xt (fun y hy => hev y (by rw [ho]; exact hy)) fun _ _ _ _ => rfl
   refine xt hev fun y hy k hk => hG.bl k ?_
   have hall : (o.op.operands.toList.all fun x => match (σ.sv x).top with | some k => Nat.blt k (RE m σ.nb) | none => true) = true := by
    unfold xP at he
    split at he
    ·cases he
    ·cases he
    ·cases he
    ·cases he
    ·cases he
    ·cases he
    ·cases he
    ·cases he
    ·cases he
    ·rename_i ho; rw [ho] at h1; simp [Z1, ZQ] at h1
    ·rename_i ho; rw [ho] at h1; simp [Z1, ZQ] at h1
    ·rename_i ho; exact absurd ⟨_, ho⟩ hmv
    ·exact he
   have := List.all_eq_true.1 hall y (Array.mem_toList_iff.2 hy)
   rw [show (σ.sv y).top = some k from hk] at this
   exact Nat.le_of_ble_eq_true this
  ·have hin : ∀ p ∈ parts.toList, p.2 ∈ o.op.operands := fun p hp => by rw [hob]; simp only [Op.operands, List.mem_toArray, List.mem_map]; exact ⟨p, hp, rfl⟩
   have e1 : (parts.toList.map fun p => σ'.sv p.2) = parts.toList.map fun p => σ.sv p.2 := List.map_congr_left fun p hp => hsv _ (hin p hp)
   have e2 : ZG σ' (parts.toList.map (·.2)) = ZG σ (parts.toList.map (·.2)) := ye fun y hy => by
    obtain ⟨p, hp, rfl⟩ := List.mem_map.1 hy
    exact hev _ (hin p hp)
   exact .inr (.inl ⟨tb, lb, parts, hob, by rw [e1]; exact hnob, by rw [e1]; exact (YU heb).2 _, by rw [e2]; exact hgb⟩)
  ·have hin : ∀ y ∈ args.toList, y ∈ o.op.operands := fun y hy => by rw [ho]; simp only [Op.operands, Call.operands, Array.mem_append]; exact .inr (Array.mem_toList_iff.1 hy)
   have e1 := hev f (by rw [ho]; simp [Op.operands, Call.operands])
   have e2 : args.toList.map σ'.sv = args.toList.map σ.sv := List.map_congr_left fun y hy => hsv _ (hin y hy)
   have e3 : ZG σ' args.toList = ZG σ args.toList := ye fun y hy => hev _ (hin y hy)
   exact .inr (.inr ⟨f, args, ts, fid, nf, first, nc, cap, ho, by rw [Zr e1]; exact hf, by rw [e1, e3]; exact h1, by rw [e2]; exact h2, by rw [e2]; exact hfr, by rw [e2]; exact h3⟩)
 have hgd : ∀ j want, o.guard = some (j, want) → yW ops σ' j want = yW ops σ j want := fun j want hg => hG.guard (u4 h1 hg)
 have hoff : Rk G ops σ' o = Rk G ops σ o := by
  unfold Rk
  cases hg : o.guard with
  | none => rfl
  | some jw => obtain ⟨j, want⟩ := jw; simp only [hgd j want hg]
 constructor
 ·unfold RD at hr ⊢
  cases hg : o.guard with
  | none =>
   rw [hg] at hr
   refine key _ _ _ ?_ hr
   unfold y5 Rk at he
   rw [hg] at he
   exact he
  | some jw =>
   obtain ⟨j, want⟩ := jw
   rw [hg] at hr
   obtain ⟨g, x0, h2, h3, h4⟩ := hr
   refine ⟨g, x0, by rw [hgd j want hg]; exact h2, h3, ?_⟩
   rcases h4 with h4 | ⟨hc, h4⟩
   ·exact .inl h4
   ·refine .inr ⟨hc, key _ _ _ ?_ h4⟩
    unfold y5 Rk at he
    rw [hg] at he
    simp only [h2, hc, Bool.false_or] at he
    exact he
 ·have hall : (o.op.operands.toList.all fun x => match (σ.sv x).top with | some k => Nat.blt k (RE m σ.nb) | none => true) = true →
    (o.op.operands.toList.all fun x => match (σ'.sv x).top with | some k => Nat.blt k (RE m σ'.nb) | none => true) = true := fun h => by
   rw [List.all_eq_true] at h ⊢
   intro y hy
   have := h y hy
   rw [hsv y (Array.mem_toList_iff.1 hy)]
   revert this
   split
   ·intro hk
    exact Nat.ble_eq_true_of_le (Nat.le_trans (Nat.le_of_ble_eq_true hk) (tD hG.nb))
   ·exact fun _ => rfl
  unfold y5 at he ⊢
  rw [hoff]
  cases ho1 : Rk G ops σ o with
  | true => rfl
  | false =>
  rw [ho1, Bool.false_or] at he
  rw [Bool.false_or]
  unfold xP at he ⊢
  split at he
  ·cases he
  ·cases he
  ·cases he
  ·cases he
  ·cases he
  ·cases he
  ·cases he
  ·cases he
  ·cases he
  ·rename_i parts ho
   have e1 : (parts.toList.map fun p => σ'.sv p.2) = parts.toList.map fun p => σ.sv p.2 := List.map_congr_left fun p hp => hsv _ (by rw [ho]; simp only [Op.operands, List.mem_toArray, List.mem_map]; exact ⟨p, hp, rfl⟩)
   rw [e1]
   exact he
  ·rename_i f args ts ho
   have hin : ∀ y ∈ args.toList, y ∈ o.op.operands := fun y hy => by rw [ho]; simp only [Op.operands, Call.operands, Array.mem_append]; exact .inr (Array.mem_toList_iff.1 hy)
   have e1 := hev f (by rw [ho]; simp [Op.operands, Call.operands])
   have e2 : args.toList.map σ'.sv = args.toList.map σ.sv := List.map_congr_left fun y hy => hsv _ (hin y hy)
   rw [Zr e1, e2]
   exact he
  ·rfl
  ·exact hall he
end
end Go.Sx
