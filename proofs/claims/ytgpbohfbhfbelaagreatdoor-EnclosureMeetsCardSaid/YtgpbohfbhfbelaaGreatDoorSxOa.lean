/- What an operation does with memory does not mind what is put aside meanwhile. -/
import Derived.Test.YtgpbohfbhfbelaaGreatDoorSxO
set_option linter.unusedSimpArgs false
set_option linter.unusedVariables false
namespace Go.Sx
open Go Go.RowKit
section
variable {P : Program} {G : Cx} {m : Option Nat} {ops : List Oper}
structure Keep (d : Option Tmp) (σ σ' : zo) : Prop where
 n : σ'.n = σ.n
 tm : ∀ t, d ≠ some t → σ'.tm t = σ.tm t
theorem Keep.put {σ σ' : zo} (h : Keep none σ σ') (d : Option Tmp) (x : AV) : Keep d σ (σ'.put d x) := by
 cases d with
 | none => exact h
 | some d => exact ⟨h.n, fun t ht => (zM _ _ fun e => ht (by rw [e])).trans (h.tm t (by simp))⟩
theorem Keep.refl (d : Option Tmp) (σ : zo) : Keep d σ σ := ⟨rfl, fun _ _ => rfl⟩
theorem Keep.mem (d : Option Tmp) (σ : zo) (nb : Nat) (bl : Nat → OB) : Keep d σ { σ with nb := nb, bl := bl } := ⟨rfl, fun _ _ => rfl⟩
theorem Keep.ev {d : Option Tmp} {σ σ' : zo} (h : Keep d σ σ') {x : Operand} (hx : ∀ t, x = .tmp t → d ≠ some t) : σ'.ev x = σ.ev x := by
 cases x with
 | tmp t => show (bif Nat.blt t σ'.n then σ'.tm t else .junk) = bif Nat.blt t σ.n then σ.tm t else .junk; rw [h.n, h.tm t (hx t rfl)]
 | _ => rfl
theorem Keep.guard {d : Option Tmp} {σ σ' : zo} (h : Keep d σ σ') {j : Nat} {want : Bool} (hd : ∀ t, d = some t → (ops[j]?).bind (·.dst) ≠ some t) : yW ops σ' j want = yW ops σ j want := by
 unfold yW
 cases ho : ops[j]? with
 | none => rfl
 | some o =>
  simp only
  cases hdd : o.dst with
  | none => rfl
  | some t =>
   simp only
   rw [h.n, h.tm t fun e => hd t e (by rw [ho, Option.bind_some, hdd])]
def Yv {α : Type} (f : zo → Option (zo × α)) : Prop :=
 (∀ σ d x, f (σ.put d x) = (f σ).map fun p => (p.1.put d x, p.2)) ∧ ∀ σ σ' a, f σ = some (σ', a) → Keep none σ σ'
theorem Yv.back {α : Type} {f : zo → Option (zo × α)} (hf : Yv f) {σ σ1 : zo} {d : Option Tmp} {x : AV} {r : α} (h : f (σ.put d x) = some (σ1, r)) :
  ∃ σ', f σ = some (σ', r) ∧ Keep none σ σ' ∧ σ1 = σ'.put d x := by
 rw [hf.1] at h
 cases h1 : f σ with
 | none => rw [h1] at h; cases h
 | some p =>
  obtain ⟨σ', r'⟩ := p
  rw [h1] at h
  cases h
  exact ⟨σ', rfl, hf.2 _ _ _ h1, rfl⟩
theorem Yv.none {α : Type} {f : zo → Option (zo × α)} (hf : Yv f) {σ : zo} {d : Option Tmp} {x : AV} (h : f (σ.put d x) = none) : f σ = none := by
 rw [hf.1] at h
 cases h1 : f σ with
 | none => rfl
 | some p => rw [h1] at h; cases h
theorem YX {α : Type} {f : zo → Option (zo × α)} (h : ∀ n tm n' tm' nb bl, f ⟨n, tm, nb, bl⟩ = (f ⟨n', tm', nb, bl⟩).map fun p => (⟨n, tm, p.1.nb, p.1.bl⟩, p.2)) : Yv f := by
 have key : ∀ σ σ' a, f σ = some (σ', a) → σ'.n = σ.n ∧ σ'.tm = σ.tm := fun σ σ' a e => by
  obtain ⟨n, tm, nb, bl⟩ := σ
  have := h n tm n tm nb bl
  rw [e] at this
  have this : σ' = ⟨n, tm, σ'.nb, σ'.bl⟩ := congrArg Prod.fst (Option.some.inj this)
  have e1 : σ'.n = n := congrArg zo.n this
  have e2 : σ'.tm = tm := congrArg zo.tm this
  exact ⟨e1, e2⟩
 refine ⟨fun σ d x => ?_, fun σ σ' a e => ⟨(key _ _ _ e).1, fun t _ => by rw [(key _ _ _ e).2]⟩⟩
 cases d with
 | none =>
  show f σ = (f σ).map fun p => p
  cases f σ <;> rfl
 | some d =>
  obtain ⟨n, tm, nb, bl⟩ := σ
  show f ⟨n, upd tm d x, nb, bl⟩ = _
  rw [h n (upd tm d x) n tm nb bl]
  cases e : f ⟨n, tm, nb, bl⟩ with
  | none => rfl
  | some p =>
   obtain ⟨⟨n1, tm1, nb1, bl1⟩, r⟩ := p
   obtain ⟨k1, k2⟩ := key _ _ _ e
   simp only at k1 k2
   subst k1 k2
   rfl
def H2 {α : Type} (x : Option (List zn × zo × α)) : Option (zo × (List zn × α)) := x.map fun p => (p.2.1, p.1, p.2.2)
theorem Yx {α : Type} {x : Option (List zn × zo × α)} {ps : List zn} {σ : zo} {r : α} : H2 x = some (σ, ps, r) ↔ x = some (ps, σ, r) := by
 cases x with
 | none => exact ⟨fun h => (by cases h), fun h => (by cases h)⟩
 | some p => obtain ⟨a, b, c⟩ := p; exact ⟨fun h => by cases h; rfl, fun h => by cases h; rfl⟩
theorem qG {α : Type} {x : Option (List zn × zo × α)} : H2 x = none ↔ x = none := by
 cases x with
 | none => exact ⟨fun _ => rfl, fun _ => rfl⟩
 | some p => exact ⟨fun h => (by cases h), fun h => (by cases h)⟩
def IZ (x : Option (List zn × zo)) : Option (zo × List zn) := x.map fun p => (p.2, p.1)
theorem XZ {x : Option (List zn × zo)} {ps : List zn} {σ : zo} : IZ x = some (σ, ps) ↔ x = some (ps, σ) := by
 cases x with
 | none => exact ⟨fun h => (by cases h), fun h => (by cases h)⟩
 | some p => obtain ⟨a, b⟩ := p; exact ⟨fun h => by cases h; rfl, fun h => by cases h; rfl⟩
def Gq (x : Option zo) : Option (zo × Unit) := x.map fun p => (p, ())
theorem V9 {x : Option zo} {σ : zo} : Gq x = some (σ, ()) ↔ x = some σ := by
 cases x with
 | none => exact ⟨fun h => (by cases h), fun h => (by cases h)⟩
 | some p => exact ⟨fun h => by cases h; rfl, fun h => by cases h; rfl⟩
theorem Ld (t : TypeId) (s v : AV) : Yv fun σ => H2 (Z0 P σ t s v) := YX fun n tm n' tm' nb bl => by
 simp only [Z0, zo.add]
 repeat' split
 all_goals rfl
theorem oK (t u : TypeId) (s v : AV) : Yv fun σ => H2 (Y6 P σ t u s v) := YX fun n tm n' tm' nb bl => by
 simp only [Y6, zo.add]
 repeat' split
 all_goals rfl
theorem PN (f : FuncId) (xs : List AV) : Yv fun σ => H2 (yH G σ f xs) := YX fun n tm n' tm' nb bl => by
 simp only [yH, zo.add]
 repeat' split
 all_goals rfl
theorem kc (t : TypeId) (s v : AV) : Yv fun σ => H2 (xH P σ t s v) := YX fun n tm n' tm' nb bl => by
 simp only [xH]
 repeat' split
 all_goals rfl
theorem OR (t : TypeId) (s v x : AV) : Yv fun σ => IZ (Yh P σ t s v x) := YX fun n tm n' tm' nb bl => by
 simp only [Yh]
 repeat' split
 all_goals rfl
theorem oN (s v x : AV) : Yv fun σ => IZ (Z8 σ s v x) := YX fun n tm n' tm' nb bl => by
 simp only [Z8]
 repeat' split
 all_goals rfl
theorem ij (t : TypeId) : Yv fun σ => XR P σ t := YX fun n tm n' tm' nb bl => by
 simp only [XR, zo.add]
 repeat' split
 all_goals rfl
theorem Qu (t : TypeId) (x : AV) : Yv fun σ => Gq (xh P σ t x) := YX fun n tm n' tm' nb bl => by
 simp only [xh]
 repeat' split
 all_goals rfl
theorem Po {σ : zo} {f : FuncId} {xs : List AV} {t : TypeId} {dst d : Option Tmp} {x : AV} {K : zo → Prop} (h2 : ∀ t, d = some t → dst ≠ some t)
  (hf : (G.own f).isSome = true) (h : YS P G (σ.put d x) f xs t dst K) (hO : zE P G) : YS P G σ f xs t dst fun σ' => Keep dst σ σ' ∧ K (σ'.put d x) := by
 have gr : ∀ {σ' : zo} (r : AV), Keep none σ σ' → K ((σ'.put d x).put dst r) → Keep dst σ (σ'.put dst r) ∧ K ((σ'.put dst r).put d x) := fun r hk h => ⟨hk.put dst r, by rw [put_comm h2] at h; exact h⟩
 have mem : ∀ nb bl, ({ σ.put d x with nb := nb, bl := bl } : zo) = ({ σ with nb := nb, bl := bl } : zo).put d x := fun nb bl => by cases d <;> rfl
 unfold YS at h ⊢
 split at h
 ·rename_i h1
  rw [if_pos h1]
  split at h
  ·rename_i T hT
   rw [xy, Y7] at h
   exact (hO.own f T hT).mono _ _ _ _ _ (fun nb bl r h => by rw [mem] at h; exact gr r (Keep.mem _ _ _ _) h) h
  ·rename_i hT
   rw [hT] at hf
   cases hf
 ·rename_i h1
  rw [if_neg h1]
  split at h
  ·rename_i ps σ2 r he2
   obtain ⟨σ3, g3, g4, rfl⟩ := (PN (G := G) f xs).back (Yx.2 he2)
   rw [Yx] at g3
   simp only [g3]
   exact zj (gr r g4) h
  ·rename_i he2
   have := (PN (G := G) f xs).none (qG.2 he2)
   rw [qG] at this
   simp only [this]
   split at h
   ·unfold wd at h ⊢
    split at h
    ·rename_i T hT
     rw [xy, Y7] at h
     exact (hO.own f T hT).mono _ _ _ _ _ (fun nb bl r h => by rw [mem] at h; exact gr r (Keep.mem _ _ _ _) h) h
    ·exact h.elim
   ·exact yP (fun r h => gr r (Keep.refl _ _) h) h
def qt (G : Cx) (o : Oper) : Bool :=
 match o.op with
 | .call { callee := .value (.func f), .. } => (G.own f).isSome
 | .call { callee := .builtin .append, .. } => true
 | .call { callee := .builtin .clear, .. } => true
 | .mapUpdate _ _ _ _ => true
 | .entryStore _ _ _ _ => true
 | _ => false
theorem kJ (hO : zE P G) {σ : zo} {o : Oper} {d : Option Tmp} {x : AV} {K : zo → Prop} (h1 : ∀ x ∈ o.op.operands, ∀ t, x = .tmp t → d ≠ some t) (h2 : ∀ t, d = some t → o.dst ≠ some t)
  (hz : qt G o = true) (h : Qj P G (σ.put d x) o K) : Qj P G σ o fun σ' => Keep o.dst σ σ' ∧ K (σ'.put d x) := by
 have hev : ∀ y ∈ o.op.operands, (σ.put d x).ev y = σ.ev y := fun y hy => Q4 (h1 y hy)
 have hsv : ∀ y ∈ o.op.operands, (σ.put d x).sv y = σ.sv y := fun y hy => Zr (hev y hy)
 have gr : ∀ {σ' : zo} (r : AV), Keep none σ σ' → K ((σ'.put d x).put o.dst r) → Keep o.dst σ (σ'.put o.dst r) ∧ K ((σ'.put o.dst r).put d x) := fun r hk h => ⟨hk.put o.dst r, by rw [put_comm h2] at h; exact h⟩
 have mem : ∀ nb bl, ({ σ.put d x with nb := nb, bl := bl } : zo) = ({ σ with nb := nb, bl := bl } : zo).put d x := fun nb bl => by cases d <;> rfl
 unfold qt at hz
 unfold Qj at h ⊢
 split at h
 ·rename_i ho; rw [ho] at hz; cases hz
 ·rename_i ho; rw [ho] at hz; cases hz
 ·rename_i ho; rw [ho] at hz; cases hz
 ·rename_i ho; rw [ho] at hz; cases hz
 ·rename_i ho; rw [ho] at hz; cases hz
 ·rename_i f args ts ho
  have e1 := hev f (by rw [ho]; simp [Op.operands, Call.operands])
  have hin : ∀ y ∈ args.toList, y ∈ o.op.operands := fun y hy => by rw [ho]; simp only [Op.operands, Call.operands, Array.mem_append]; exact .inr (Array.mem_toList_iff.1 hy)
  have e2 : args.toList.map (σ.put d x).sv = args.toList.map σ.sv := List.map_congr_left fun y hy => hsv _ (hin y hy)
  have e3 : ZG (σ.put d x) args.toList = ZG σ args.toList := ye fun y hy => hev _ (hin y hy)
  simp only [e1, e2, e3, Zr e1] at h
  rw [ho] at hz
  cases f with
  | func fid => exact zj (fun h => Po h2 hz h hO) h
  | _ => cases hz
 ·rename_i args ts ho
  have hin : ∀ y ∈ args.toList, y ∈ o.op.operands := fun y hy => by rw [ho]; simp only [Op.operands, Call.operands, Array.mem_append]; exact .inr (Array.mem_toList_iff.1 hy)
  split at h
  ·rename_i s y t t' ha ht
   have e1 := hev s (hin s (by rw [ha]; simp))
   have e2 := hev y (hin y (by rw [ha]; simp))
   simp only [e1, e2, Zr e1, Zr e2] at h
   split at h
   ·rename_i htt
    rw [if_pos htt]
    split at h
    ·rename_i ps σ1 r he
     obtain ⟨σ', g1, g2, rfl⟩ := (Ld (P := P) t (σ.sv s) (σ.sv y)).back (Yx.2 he)
     rw [Yx] at g1
     simp only [g1]
     exact zj (gr r g2) h
    ·exact h.elim
   ·rename_i htt
    rw [if_neg htt]
    split at h
    ·rename_i ps σ1 r he
     obtain ⟨σ', g1, g2, rfl⟩ := (oK (P := P) t t' (σ.sv s) (σ.sv y)).back (Yx.2 he)
     rw [Yx] at g1
     simp only [g1]
     exact zj (gr r g2) h
    ·exact h.elim
  ·exact h.elim
 ·rename_i args ts ho
  have hin : ∀ y ∈ args.toList, y ∈ o.op.operands := fun y hy => by rw [ho]; simp only [Op.operands, Call.operands, Array.mem_append]; exact .inr (Array.mem_toList_iff.1 hy)
  split at h
  ·rename_i y t ha ht
   have e1 := hev y (hin y (by rw [ha]; simp))
   simp only [e1, Zr e1] at h
   split at h
   ·rename_i σ1 he
    obtain ⟨σ', g1, g2, rfl⟩ := (Qu (P := P) t (σ.sv y)).back (V9.2 he)
    rw [V9] at g1
    simp only [g1]
    exact zj (gr _ g2) h
   ·exact h.elim
  ·exact h.elim
 ·rename_i t ho
  split at h
  ·rename_i σ1 r he
   obtain ⟨σ', g1, g2, rfl⟩ := (ij (P := P) t).back he
   simp only [g1]
   exact gr r g2 h
  ·exact h.elim
 ·rename_i t mm i ho
  have e1 := hev mm (by rw [ho]; simp [Op.operands])
  have e2 := hev i (by rw [ho]; simp [Op.operands])
  simp only [e1, e2, Zr e1, Zr e2] at h
  split at h
  ·rename_i ps σ1 r he
   obtain ⟨σ', g1, g2, rfl⟩ := (kc (P := P) t (σ.sv mm) (σ.sv i)).back (Yx.2 he)
   rw [Yx] at g1
   simp only [g1]
   exact zj (gr r g2) h
  ·exact h.elim
 ·rename_i t mm s y ho
  have e1 := hev mm (by rw [ho]; simp [Op.operands])
  have e2 := hev s (by rw [ho]; simp [Op.operands])
  have e3 := hev y (by rw [ho]; simp [Op.operands])
  simp only [e1, e2, e3, Zr e1, Zr e2, Zr e3] at h
  split at h
  ·rename_i ps σ1 he
   obtain ⟨σ', g1, g2, rfl⟩ := (oN (σ.sv mm) (σ.sv s) (σ.sv y)).back (XZ.2 he)
   rw [XZ] at g1
   simp only [g1]
   exact zj (gr _ g2) h
  ·exact h.elim
 ·rename_i t mm i y ho
  have e1 := hev mm (by rw [ho]; simp [Op.operands])
  have e2 := hev i (by rw [ho]; simp [Op.operands])
  have e3 := hev y (by rw [ho]; simp [Op.operands])
  simp only [e1, e2, e3, Zr e1, Zr e2, Zr e3] at h
  split at h
  ·rename_i ps σ1 he
   obtain ⟨σ', g1, g2, rfl⟩ := (OR (P := P) t (σ.sv mm) (σ.sv i) (σ.sv y)).back (XZ.2 he)
   rw [XZ] at g1
   simp only [g1]
   exact zj (gr _ g2) h
  ·exact h.elim
 ·have e : Z1 P G.objs (σ.put d x).bl (σ.put d x).ev o.op = Z1 P G.objs σ.bl σ.ev o.op := xt hev fun _ _ _ _ => by rw [Y7]
  rw [e] at h
  split at h
  ·exact zj (gr _ (Keep.refl _ _)) h
  ·exact h.elim
structure YQ (d : Option Tmp) (σ σ' : zo) : Prop extends Keep d σ σ' where
 nb : σ.nb ≤ σ'.nb
 box : ∀ k, k < σ.nb → Wl (σ.bl k) = true → σ'.bl k = σ.bl k
theorem YQ.put' {σ σ' : zo} (h : YQ none σ σ') (d : Option Tmp) (x : AV) : YQ d σ (σ'.put d x) := ⟨h.toKeep.put d x, by rw [xy]; exact h.nb, fun k hk hb => by rw [Y7]; exact h.box k hk hb⟩
theorem YQ.refl' (d : Option Tmp) (σ : zo) : YQ d σ σ := ⟨Keep.refl d σ, Nat.le_refl _, fun _ _ _ => rfl⟩
theorem Vt {f : Nat → OB} {i k : Nat} {B B' : OB} (hi : f i = B) (hB : Wl B = false) (hk : Wl (f k) = true) : upd f i B' k = f k := zM _ _ fun e => by rw [e, hi, hB] at hk; cases hk
theorem ig {t : TypeId} {s v r : AV} {σ σ' : zo} {ps : List zn} (h : Z0 P σ t s v = some (ps, σ', r)) : YQ none σ σ' := by
 refine ⟨(Ld (P := P) t s v).2 _ _ _ (Yx.2 h), ?_, ?_⟩
 ·unfold Z0 at h
  repeat' split at h
  all_goals first | cases h | skip
  all_goals first | exact Nat.le_succ _ | exact Nat.le_refl _
 ·intro k hk hb
  unfold Z0 at h
  repeat' split at h
  all_goals first | cases h | skip
  ·exact zM _ _ (Nat.ne_of_lt hk)
  ·rfl
  ·exact zM _ _ (Nat.ne_of_lt hk)
  ·rename_i hB _
   show upd (upd σ.bl _ .dead) σ.nb _ k = _
   rw [zM _ _ (Nat.ne_of_lt hk)]
   exact Vt hB rfl hb
theorem MX {t : TypeId} {x : AV} {σ σ' : zo} (h : xh P σ t x = some σ') : YQ none σ σ' := by
 refine ⟨(Qu (P := P) t x).2 _ _ _ (V9.2 h), ?_, ?_⟩
 ·unfold xh at h
  repeat' split at h
  all_goals first | cases h | skip
  exact Nat.le_refl _
 ·intro k hk hb
  unfold xh at h
  repeat' split at h
  all_goals first | cases h | skip
  rename_i hB _ _ _ _ _
  exact Vt hB rfl hb
theorem jP {t : TypeId} {mm i x : AV} {σ σ' : zo} {ps : List zn} (h : Yh P σ t mm i x = some (ps, σ')) : YQ none σ σ' := by
 refine ⟨(OR (P := P) t mm i x).2 _ _ _ (XZ.2 h), ?_, ?_⟩
 ·unfold Yh at h
  repeat' split at h
  all_goals first | cases h | skip
  exact Nat.le_refl _
 ·intro k hk hb
  unfold Yh at h
  repeat' split at h
  all_goals first | cases h | skip
  rename_i hB _ _
  exact Vt hB rfl hb
theorem jU {mm s x : AV} {σ σ' : zo} {ps : List zn} (h : Z8 σ mm s x = some (ps, σ')) : YQ none σ σ' := by
 refine ⟨(oN mm s x).2 _ _ _ (XZ.2 h), ?_, ?_⟩
 ·unfold Z8 at h
  repeat' split at h
  all_goals first | cases h | skip
  exact Nat.le_refl _
 ·intro k hk hb
  unfold Z8 at h
  repeat' split at h
  all_goals first | cases h | skip
  rename_i hB
  exact Vt hB rfl hb
theorem ir {f : FuncId} {xs : List AV} {r : AV} {σ σ' : zo} {ps : List zn} (h : yH G σ f xs = some (ps, σ', r)) : YQ none σ σ' := by
 refine ⟨(PN (G := G) f xs).2 _ _ _ (Yx.2 h), ?_, ?_⟩
 ·unfold yH at h
  split at h
  ·cases h; exact Nat.le_succ _
  ·cases h
 ·intro k hk hb
  unfold yH at h
  split at h
  ·cases h; exact zM _ _ (Nat.ne_of_lt hk)
  ·cases h
theorem py (hO : zE P G) {σ : zo} {f : FuncId} {xs : List AV} {t : TypeId} {dst : Option Tmp} {K : zo → Prop} (hf : (G.own f).isSome = true) (hb : G.frm f = true) (h : YS P G σ f xs t dst K) :
  YS P G σ f xs t dst fun σ' => YQ dst σ σ' ∧ K σ' := by
 have gr : ∀ {σ' : zo} (r : AV), YQ none σ σ' → K (σ'.put dst r) → YQ dst σ (σ'.put dst r) ∧ K (σ'.put dst r) := fun r hk h => ⟨hk.put' dst r, h⟩
 have own : ∀ {T}, G.own f = some T → (T σ.nb σ.bl xs fun nb' bl' r => K (({ σ with nb := nb', bl := bl' } : zo).put dst r)) →
   T σ.nb σ.bl xs fun nb' bl' r => YQ dst σ (({ σ with nb := nb', bl := bl' } : zo).put dst r) ∧ K (({ σ with nb := nb', bl := bl' } : zo).put dst r) := fun {T} hT h =>
  (hO.own f T hT).mono _ _ _ _ _ (fun nb' bl' r ⟨h1, h2, h3⟩ => gr r ⟨Keep.mem _ _ _ _, h2, h3⟩ h1) (hO.frm f T hb hT _ _ _ _ h)
 unfold YS at h ⊢
 split at h
 ·rename_i h1
  rw [if_pos h1]
  split at h
  ·rename_i T hT
   exact own hT h
  ·rename_i hT
   rw [hT] at hf
   cases hf
 ·rename_i h1
  rw [if_neg h1]
  split at h
  ·rename_i ps σ2 r he2
   exact zj (gr r (ir he2)) h
  ·split at h
   ·unfold wd at h ⊢
    split at h
    ·rename_i T hT
     exact own hT h
    ·exact h.elim
   ·exact yP (fun r h => gr r (YQ.refl' _ _) h) h
def oV (G : Cx) (o : Oper) : Bool :=
 match o.op with
 | .call { callee := .value (.func f), .. } => G.frm f
 | _ => true
theorem JW (hO : zE P G) {σ : zo} {o : Oper} {K : zo → Prop} (hz : qt G o = true) (hn : oV G o = true) (h : Qj P G σ o K) : Qj P G σ o fun σ' => YQ o.dst σ σ' ∧ K σ' := by
 have gr : ∀ {σ' : zo} (r : AV), YQ none σ σ' → K (σ'.put o.dst r) → YQ o.dst σ (σ'.put o.dst r) ∧ K (σ'.put o.dst r) := fun r hk h => ⟨hk.put' o.dst r, h⟩
 unfold qt at hz
 unfold oV at hn
 unfold Qj at h ⊢
 split at h
 ·rename_i ho; rw [ho] at hz; cases hz
 ·rename_i ho; rw [ho] at hz; cases hz
 ·rename_i ho; rw [ho] at hz; cases hz
 ·rename_i ho; rw [ho] at hz; cases hz
 ·rename_i ho; rw [ho] at hz; cases hz
 ·rename_i f args ts ho
  rw [ho] at hz hn
  cases f with
  | func fid => exact zj (fun h => py hO hz hn h) h
  | _ => cases hz
 ·split at h
  ·split at h
   ·rename_i htt
    rw [if_pos htt]
    split at h
    ·rename_i he; exact zj (gr _ (ig he)) h
    ·exact h.elim
   ·rename_i ho _ _ _ _ _ _ htt
    rw [if_neg htt]
    split at h
    ·rename_i he
     refine zj (gr _ ⟨(oK (P := P) _ _ _ _).2 _ _ _ (Yx.2 he), ?_, ?_⟩) h
     ·unfold Y6 at he
      repeat' split at he
      all_goals first | cases he | skip
      all_goals exact Nat.le_succ _
     ·intro k hk hb
      unfold Y6 at he
      repeat' split at he
      all_goals first | cases he | skip
      ·exact zM _ _ (Nat.ne_of_lt hk)
      ·rename_i hB _
       show upd (upd σ.bl _ .dead) σ.nb _ k = _
       rw [zM _ _ (Nat.ne_of_lt hk)]
       exact Vt hB rfl hb
    ·exact h.elim
  ·exact h.elim
 ·split at h
  ·split at h
   ·rename_i he; exact zj (gr _ (MX he)) h
   ·exact h.elim
  ·exact h.elim
 ·rename_i ho; rw [ho] at hz; cases hz
 ·rename_i ho; rw [ho] at hz; cases hz
 ·split at h
  ·rename_i he; exact zj (gr _ (jU he)) h
  ·exact h.elim
 ·split at h
  ·rename_i he; exact zj (gr _ (jP he)) h
  ·exact h.elim
 ·split at h
  ·exact zj (gr _ (YQ.refl' _ _)) h
  ·exact h.elim
end
end Go.Sx
