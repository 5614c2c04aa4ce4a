/- The orders of a region: taking first, going through the rest. -/
import Derived.Test.YtgpbohfbhfbelaaGreatDoorSxOa
set_option linter.unusedSimpArgs false
set_option linter.unusedVariables false
namespace Go.Sx
universe u
open Go Go.RowKit
inductive MZ (ops : List Oper) : Nat → Nat → Prop where
 | edge {i j : Nat} {o : Oper} {e : Edge} (ho : ops[j]? = some o) (he : e ∈ o.after) (hb : Region.binds .any e = true) (hi : e.on = i) : MZ ops i j
 | step {i j : Nat} {o : Oper} {e : Edge} (ho : ops[j]? = some o) (he : e ∈ o.after) (hb : Region.binds .any e = true) (hi : MZ ops i e.on) : MZ ops i j
def XN (acc : List Nat) : List Edge → Nat
 | [] => 0
 | e :: es => bif Region.binds .any e then (1 <<< e.on) ||| acc.getD e.on 0 ||| XN acc es else XN acc es
def qL : List Oper → List Nat → List Nat
 | [], acc => acc
 | o :: os, acc => qL os (acc ++ [XN acc o.after.toList])
def Closed (ops : List Oper) (L : Array Bool) : Prop :=
 ∀ j o, ops[j]? = some o → L.getD j false = true → ∀ e ∈ o.after, Region.binds .any e = true → L.getD e.on false = true
def stepJ (P : Program) (G : Cx) (m : Option Nat) (ops : List Oper) (late : Bool) (o : Oper) (σ : zo) (k : zo → Prop) : Prop :=
 match late with
 | true => wO P G ops o σ k
 | false => XJ P G m ops o σ k
def XB (P : Program) (G : Cx) (m : Option Nat) (ops : List Oper) (late : Nat → Bool) : Nat → Array Bool → zo → (zo → Prop) → Prop
 | 0, L, σ, k => Region.ready .any ops.toArray L = [] ∧ k σ
 | f + 1, L, σ, k => (Region.ready .any ops.toArray L = [] → k σ) ∧
   ∀ j ∈ Region.ready .any ops.toArray L, ∀ o, ops[j]? = some o → stepJ P G m ops (late j) o σ fun σ' => XB P G m ops late f (L.setIfInBounds j true) σ' k
def GC (o : Oper) : Bool :=
 match o.op, o.guard with
 | .move _, none => true
 | _, _ => false
def x4 (o : Oper) : Bool :=
 match o.op, o.guard with
 | .load _ _, none | .fieldAddr _ _ _, none | .field _ _ _, none | .binOp _ _ _ _ _, none | .unOp _ _ _, none | .extract _ _, none | .convert _ _ _, none | .index _ _ _, none | .makeFunc _ _ _, none => true
 | _, _ => false
def s7 (σ : zo) (o : Oper) : Bool := o.op.operands.toList.all fun x => match (σ.sv x).top with | some _ => false | none => true
def ud (m : Option Nat) (σ : zo) (o : Oper) : Bool := o.op.operands.toList.all fun x => match (σ.sv x).top with | some k => Wl (σ.bl k) && Nat.blt k (RE m σ.nb) | none => true
def U1 (G : Cx) (o : Oper) : Bool := qt G o && o.guard.isNone
def ss (σ : zo) (o : Oper) : Bool := GC o || x4 o && s7 σ o
def pass (G : Cx) (m : Option Nat) (σ : zo) (oi oj : Oper) : Bool := U1 G oj && (ss σ oi || x4 oi && ud m σ oi && oV G oj)
def eJ (G : Cx) (m : Option Nat) (σ : zo) (ops : List Oper) (A : List Nat) (late : Nat → Bool) (L : Array Bool) (i : Nat) (oi : Oper) : Bool :=
 (List.range ops.length).all fun j => j == i || (A.getD j 0).testBit i || L.getD j true ||
  match ops[j]? with
  | some oj => (!late j || pass G m σ oi oj) && oi.apart ops.toArray oj
  | none => true
def lu (G : Cx) (m : Option Nat) (ops : List Oper) (A : List Nat) (late : Nat → Bool) (L : Array Bool) (σ : zo) (i : Nat) : Bool :=
 match ops[i]? with
 | some o => y5 G m ops σ o && eJ G m σ ops A late L i o
 | none => false
def tR (rs : List Nat) (p : Nat → Prop) : Prop :=
 match rs with
 | [] => True
 | [i] => p i
 | i :: rs => p i ∧ tR rs p
def w8 (P : Program) (G : Cx) (m : Option Nat) (ops : List Oper) (A : List Nat) (late : Nat → Bool) : Nat → Array Bool → zo → (zo → Prop) → Prop
 | 0, L, σ, k =>
  match Region.ready .any ops.toArray L with
  | [] => k σ
  | _ => False
 | f + 1, L, σ, k =>
  match Region.ready .any ops.toArray L with
  | [] => k σ
  | rs =>
   match rs.find? (lu G m ops A late L σ) with
   | some i =>
    match ops[i]? with
    | some o => XJ P G m ops o σ fun σ' => w8 P G m ops A late f (L.setIfInBounds i true) σ' k
    | none => False
   | none => tR rs fun i =>
    match ops[i]? with
    | some o => stepJ P G m ops (late i) o σ fun σ' => w8 P G m ops A late f (L.setIfInBounds i true) σ' k
    | none => False
section
variable {P : Program} {G : Cx} {m : Option Nat} {ops : List Oper} {late : Nat → Bool}
theorem Xb {acc : List Nat} {i : Nat} : ∀ (es : List Edge), (XN acc es).testBit i = true → ∃ e ∈ es, Region.binds .any e = true ∧ (e.on = i ∨ (acc.getD e.on 0).testBit i = true)
 | [], h => by simp [XN] at h
 | e :: es, h => by
  unfold XN at h
  cases hb : Region.binds .any e with
  | false =>
   rw [hb] at h
   obtain ⟨e', h1, h2⟩ := Xb es h
   grind
  | true =>
   rw [hb] at h
   simp only [cond_true, Nat.testBit_or, Bool.or_eq_true] at h
   rcases h with (h | h) | h
   ·refine ⟨e, List.mem_cons_self, hb, .inl ?_⟩
    rw [Nat.one_shiftLeft, Nat.testBit_two_pow] at h
    simp_all
   ·simp_all
   ·obtain ⟨e', h1, h2⟩ := Xb es h
    grind
theorem su : ∀ (os : List Oper) (acc : List Nat), (∀ j, os[j]? = ops[acc.length + j]?) → (∀ j i, (acc.getD j 0).testBit i = true → MZ ops i j) →
  ∀ j i, ((qL os acc).getD j 0).testBit i = true → MZ ops i j
 | [], _, _, h, j, i, hi => h j i hi
 | o :: os, acc, ho, h, j, i, hi => by
  refine su os (acc ++ [XN acc o.after.toList]) (fun j => ?_) (fun j i hi => ?_) j i hi
  ·have := ho (j + 1)
   grind
  ·by_cases hj : j < acc.length
   ·grind
   ·by_cases hj' : j = acc.length
    ·subst hj'
     rw [List.getD_eq_getElem?_getD, List.getElem?_append_right (Nat.le_refl _)] at hi
     simp only [Nat.sub_self, List.getElem?_cons_zero, Option.getD_some] at hi
     obtain ⟨e, h1, h2, h3⟩ := Xb _ hi
     have ho' : ops[acc.length]? = some o := by simpa using (ho 0).symm
     rcases h3 with h3 | h3
     ·exact .edge ho' (Array.mem_toList_iff.1 h1) h2 h3
     ·exact .step ho' (Array.mem_toList_iff.1 h1) h2 (h _ _ h3)
    grind
theorem PT {L : Array Bool} (hL : Closed ops L) {i j : Nat} (h : MZ ops i j) {o : Oper} (ho : ops[j]? = some o)
  (hj : ∀ e ∈ o.after, Region.binds .any e = true → L.getD e.on false = true) : L.getD i false = true := by
 induction h generalizing o with
 | edge ho' he hb hi =>
  grind
 | step ho' he hb hi ih =>
  rw [ho'] at ho
  cases ho
  have h1 := hj _ he hb
  rename_i e
  cases ho2 : ops[e.on]? with
  | none => cases hi with
   | edge h => rw [ho2] at h; cases h
   | step h => rw [ho2] at h; cases h
  | some o2 => exact ih ho2 (hL _ _ ho2 h1)
theorem T5 {L : Array Bool} {i : Nat} (h : L.getD i true = false) : L.getD i false = false := by
 grind
theorem Closed.set {L : Array Bool} (hL : Closed ops L) {j : Nat} (hj : j ∈ Region.ready .any ops.toArray L) : Closed ops (L.setIfInBounds j true) := by
 obtain ⟨hun, oj, hoj, hall⟩ := mem_ready.1 hj
 rw [List.getElem?_toArray] at hoj
 have keep : ∀ n, L.getD n false = true → (L.setIfInBounds j true).getD n false = true := fun n h => by
  by_cases e : j = n
  ·grind
  simp_all
 intro n o ho hn e he hb
 by_cases ejn : j = n
 ·simp_all
 ·refine keep _ (hL n o ho ?_ e he hb)
  simp_all
theorem sC (rs : List Nat) (p : Nat → Prop) : tR rs p ↔ ∀ i ∈ rs, p i := by
 induction rs with
 | nil => simp [tR]
 | cons i rs ih =>
  cases rs with
  | nil => simp [tR]
  | cons j rs => rw [show tR (i :: j :: rs) p = (p i ∧ tR (j :: rs) p) from rfl, ih]; simp
theorem Us (hO : zE P G) {σ : zo} {f : FuncId} {xs : List AV} {k k' : zo → AV → Prop} (hk : ∀ σ x, k σ x → k' σ x) (h : wd G σ f xs k) : wd G σ f xs k' := by
 unfold wd at h ⊢
 split at h
 ·rename_i T hT
  exact (hO.own f T hT).mono _ _ _ _ _ (fun nb bl x h => hk _ _ h) h
 ·exact h
theorem Qm (hO : zE P G) {σ : zo} {f : FuncId} {xs : List AV} {t : TypeId} {d : Option Tmp} {K K' : zo → Prop} (hk : ∀ σ, K σ → K' σ) (h : YS P G σ f xs t d K) : YS P G σ f xs t d K' := by
 unfold YS at h ⊢
 split at h
 ·rename_i h1
  rw [if_pos h1]
  split at h
  ·rename_i T hT
   exact (hO.own f T hT).mono _ _ _ _ _ (fun nb bl x h => hk _ h) h
  ·split at h
   ·rename_i h2
    rw [if_pos h2]
    exact yP (fun r hr => hk _ hr) h
   ·rename_i h2
    rw [if_neg h2]
    split at h
    ·split at h
     ·exact h.elim
     ·rename_i h3
      rw [if_neg h3]
      split at h
      ·exact zj (hk _) h
      ·exact yP (fun r hr => hk _ hr) h
    ·exact h
 ·rename_i h1
  rw [if_neg h1]
  split at h
  ·exact zj (hk _) h
  split at h
  ·exact Us hO (fun _ _ h => hk _ h) h
  ·exact yP (fun r hr => hk _ hr) h
theorem Nk (hO : zE P G) {g : Bool} {σ : zo} {o : Oper} {K K' : zo → Prop} (hk : ∀ σ, K σ → K' σ) (h : rz P G g σ o K) : rz P G g σ o K' := by
 unfold rz at h ⊢
 split at h
 ·split at h
  ·split at h
   ·rw [zv] at h ⊢
    exact ⟨fun hg => zj (Us hO fun _ _ h => hk _ h) (h.1 hg), fun hg => hk _ (h.2 hg)⟩
   ·exact Ve hk h
  ·split at h
   ·rename_i T hT
    rw [zv] at h ⊢
    exact ⟨fun hg => zj (hO.mono _ T hT _ _ _ _ _ fun nb bl x h => hk _ h) (h.1 hg), fun hg => hk _ (h.2 hg)⟩
   omega
  ·exact Ve hk h
 ·exact Ve hk h
theorem lp (hO : zE P G) {σ : zo} {o : Oper} {K K' : zo → Prop} (hk : ∀ σ, K σ → K' σ) (h : Qj P G σ o K) : Qj P G σ o K' := by
 unfold Qj at h ⊢
 split at h
 ·split at h
  ·exact hk _ h
  ·exact h
 ·split at h
  ·exact zj (hk _) h
  ·exact h
 ·split at h
  ·split at h
   ·exact zj (hk _) h
   ·exact h
  ·exact h.elim
 ·split at h
  ·exact zj (hk _) h
  split at h
  ·split at h
   ·exact zj (hk _) h
   ·exact h
  ·exact h
 ·split at h
  ·exact zj (hk _) h
  ·exact h
 ·split at h
  ·exact zj (Qm hO hk) h
  ·split at h
   ·rename_i T hT
    exact zj (hO.mono _ T hT _ _ _ _ _ fun nb bl x h => hk _ h) h
   ·exact h
  ·exact h
 ·split at h
  ·split at h
   ·rename_i htt
    rw [if_pos htt]
    split at h
    ·exact zj (hk _) h
    ·exact h
   ·rename_i htt
    rw [if_neg htt]
    split at h
    ·exact zj (hk _) h
    ·exact h.elim
  ·exact h
 ·split at h
  ·split at h
   ·exact zj (hk _) h
   ·exact h
  ·exact h
 ·split at h
  ·exact hk _ h
  ·exact h
 ·split at h
  ·exact zj (hk _) h
  ·exact h
 ·split at h
  ·exact zj (hk _) h
  ·exact h
 ·split at h
  ·exact zj (hk _) h
  ·exact h
 ·split at h
  ·exact zj (hk _) h
  ·exact h
theorem wR (hO : zE P G) {σ : zo} {o : Oper} {K K' : zo → Prop} (hk : ∀ σ, K σ → K' σ) (h : wO P G ops o σ K) : wO P G ops o σ K' := by
 unfold wO at h ⊢
 split at h
 ·exact lp hO hk h
 ·split at h
  ·rename_i g _
   cases hc : G.conc && !g with
   | true => simp_all
   | false => rw [hc] at h; exact Nk hO hk h
  ·exact h
theorem tr (hO : zE P G) {l : Bool} {σ : zo} {o : Oper} {K K' : zo → Prop} (hk : ∀ σ, K σ → K' σ) (h : stepJ P G m ops l o σ K) : stepJ P G m ops l o σ K' := by
 cases l with
 | true => exact wR hO hk h
 | false => exact v6 hk h
theorem lm {l : Bool} {σ : zo} {o : Oper} {K : zo → Prop} (h : stepJ P G m ops l o σ K) : wO P G ops o σ K := by
 cases l with
 | true => exact h
 | false => exact sw h
theorem qn (hO : zE P G) {σ : zo} {o : Oper} {d : Option Tmp} {x : AV} {K : zo → Prop} (hp : U1 G o = true) (h1 : ∀ t, d = some t → t ∉ o.looksAt ops.toArray) (h2 : ∀ t, d = some t → o.dst ≠ some t)
  (h : wO P G ops o (σ.put d x) K) : wO P G ops o σ fun σ' => Keep o.dst σ σ' ∧ K (σ'.put d x) := by
 unfold U1 at hp
 rw [Bool.and_eq_true, Option.isNone_iff_eq_none] at hp
 unfold wO at h ⊢
 rw [hp.2] at h ⊢
 exact kJ hO (XM h1) h2 hp.1 h
theorem Ll (hO : zE P G) {σ : zo} {o : Oper} {K : zo → Prop} (hp : U1 G o = true) (hn : oV G o = true) (h : wO P G ops o σ K) : wO P G ops o σ fun σ' => YQ o.dst σ σ' ∧ K σ' := by
 unfold U1 at hp
 rw [Bool.and_eq_true, Option.isNone_iff_eq_none] at hp
 unfold wO at h ⊢
 rw [hp.2] at h ⊢
 exact JW hO hp.1 hn h
theorem ub {σ : zo} {o : Oper} (hp : x4 o = true) (h : (o.op.operands.toList.all fun x => match (σ.sv x).top with | some k => Nat.blt k (RE m σ.nb) | none => true) = true) : y5 G m ops σ o = true := by
 unfold x4 at hp
 unfold y5 xP
 rw [Bool.or_eq_true]
 refine .inr ?_
 split at hp
 all_goals first | cases hp | skip
 all_goals rename_i ho _; rw [ho] at h ⊢; exact h
theorem sf {σ σ' : zo} {o : Oper} {x : AV} (hp : x4 o = true) (hev : ∀ y ∈ o.op.operands, σ'.ev y = σ.ev y) (hb : ∀ y ∈ o.op.operands, ∀ k, (σ.sv y).top = some k → σ'.bl k = σ.bl k) (hr : RD P G ops σ o x) : RD P G ops σ' o x := by
 have hg : o.guard = none := by
  unfold x4 at hp
  split at hp
  all_goals first | assumption | cases hp
 unfold RD at hr ⊢
 rw [hg] at hr ⊢
 unfold x4 at hp
 rcases hr with ⟨ps, h1, h2⟩ | ⟨_, _, _, hob, _⟩ | ⟨_, _, _, _, _, _, _, _, hob, _⟩
 ·refine .inl ⟨ps, ?_, h2⟩
  rw [← h1]
  exact xt hev hb
 ·rw [hob, hg] at hp; cases hp
 ·rw [hob, hg] at hp; cases hp
theorem Mf {σ σ' : zo} {o : Oper} {x : AV} {d : Option Tmp} (hG : Keep d σ σ') (hm : ss σ o = true) (h1 : ∀ t, d = some t → t ∉ o.looksAt ops.toArray) (he : y5 G m ops σ o = true) (hr : RD P G ops σ o x) :
  RD P G ops σ' o x ∧ y5 G m ops σ' o = true ∧ ss σ' o = true := by
 have hl := XM h1
 have hev : ∀ y ∈ o.op.operands, σ'.ev y = σ.ev y := fun y hy => hG.ev (hl y hy)
 unfold ss at hm ⊢
 rw [Bool.or_eq_true] at hm ⊢
 rcases hm with hm | hm
 ·refine and_assoc.1 ⟨?_, .inl hm⟩
  unfold GC at hm
  split at hm
  ·rename_i y ho hg
   refine ⟨?_, ?_⟩
   ·unfold RD at hr ⊢
    rw [hg] at hr ⊢
    rcases hr with ⟨ps, h1, h2⟩ | ⟨_, _, _, hob, _⟩ | ⟨_, _, _, _, _, _, _, _, hob, _⟩
    ·refine .inl ⟨ps, ?_, h2⟩
     rw [← h1, ho, ← qQ (bl := σ.bl)]
     exact xt (fun z hz => hev z (by rw [ho]; exact hz)) fun _ _ _ _ => rfl
    ·rw [ho] at hob; cases hob
    ·rw [ho] at hob; cases hob
   ·unfold y5 xP
    rw [ho, Bool.or_true]
  ·cases hm
 ·rw [Bool.and_eq_true] at hm
  have hsv : ∀ y ∈ o.op.operands, σ'.sv y = σ.sv y := fun y hy => Zr (hev y hy)
  have ht := hm.2
  unfold s7 at ht
  rw [List.all_eq_true] at ht
  have hno : ∀ y ∈ o.op.operands, (σ.sv y).top = none := fun y hy => by
   have := ht y (Array.mem_toList_iff.2 hy)
   cases h : (σ.sv y).top with
   | none => rfl
   | some k => rw [h] at this; cases this
  refine ⟨sf hm.1 hev (fun y hy k hk => by rw [hno y hy] at hk; cases hk) hr, ub hm.1 ?_, .inr ?_⟩
  ·rw [List.all_eq_true]
   intro y hy
   rw [hsv y (Array.mem_toList_iff.1 hy), hno y (Array.mem_toList_iff.1 hy)]
  ·rw [Bool.and_eq_true]
   refine ⟨hm.1, ?_⟩
   unfold s7
   rw [List.all_eq_true]
   intro y hy
   rw [hsv y (Array.mem_toList_iff.1 hy), hno y (Array.mem_toList_iff.1 hy)]
theorem nW {σ σ' : zo} {o : Oper} {x : AV} {d : Option Tmp} (hG : YQ d σ σ') (hm : (x4 o && ud m σ o) = true) (h1 : ∀ t, d = some t → t ∉ o.looksAt ops.toArray) (he : y5 G m ops σ o = true) (hr : RD P G ops σ o x) :
  RD P G ops σ' o x ∧ y5 G m ops σ' o = true ∧ (x4 o && ud m σ' o) = true := by
 have hl := XM h1
 have hev : ∀ y ∈ o.op.operands, σ'.ev y = σ.ev y := fun y hy => hG.toKeep.ev (hl y hy)
 have hsv : ∀ y ∈ o.op.operands, σ'.sv y = σ.sv y := fun y hy => Zr (hev y hy)
 rw [Bool.and_eq_true] at hm
 have ht := hm.2
 unfold ud at ht
 rw [List.all_eq_true] at ht
 have hk : ∀ y ∈ o.op.operands, ∀ k, (σ.sv y).top = some k → Wl (σ.bl k) = true ∧ k < RE m σ.nb ∧ σ'.bl k = σ.bl k := fun y hy k e => by
  have := ht y (Array.mem_toList_iff.2 hy)
  rw [e] at this
  simp only [Bool.and_eq_true] at this
  have h2 : k < RE m σ.nb := Nat.le_of_ble_eq_true this.2
  exact ⟨this.1, h2, hG.box k (Nat.lt_of_lt_of_le h2 Qa) this.1⟩
 have hlim : RE m σ.nb ≤ RE m σ'.nb := tD hG.nb
 refine ⟨sf hm.1 hev (fun y hy k e => (hk y hy k e).2.2) hr, ub hm.1 ?_, ?_⟩
 ·rw [List.all_eq_true]
  intro y hy
  rw [hsv y (Array.mem_toList_iff.1 hy)]
  have := hk y (Array.mem_toList_iff.1 hy)
  cases e : (σ.sv y).top with
  | none => rfl
  | some k => exact Nat.ble_eq_true_of_le (Nat.lt_of_lt_of_le (this k e).2.1 hlim)
 ·rw [Bool.and_eq_true]
  refine ⟨hm.1, ?_⟩
  unfold ud
  rw [List.all_eq_true]
  intro y hy
  rw [hsv y (Array.mem_toList_iff.1 hy)]
  have := hk y (Array.mem_toList_iff.1 hy)
  cases e : (σ.sv y).top with
  | none => rfl
  | some k =>
   obtain ⟨g1, g2, g3⟩ := this k e
   simp only [g3, g1, Bool.true_and]
   exact Nat.ble_eq_true_of_le (Nat.lt_of_lt_of_le g2 hlim)
theorem OE {σ σ' : zo} {o oj : Oper} {d : Option Tmp} (hG : yx m d σ σ') (h1 : ∀ t, d = some t → t ∉ o.looksAt ops.toArray) (h : pass G m σ o oj = true) : pass G m σ' o oj = true := by
 have hl := XM h1
 have hsv : ∀ y ∈ o.op.operands, σ'.sv y = σ.sv y := fun y hy => Zr (hG.ev (hl y hy))
 have hW : s7 σ' o = s7 σ o := by
  unfold s7
  rw [Bool.eq_iff_iff, List.all_eq_true, List.all_eq_true]
  exact ⟨fun h y hy => by rw [← hsv y (Array.mem_toList_iff.1 hy)]; exact h y hy, fun h y hy => by rw [hsv y (Array.mem_toList_iff.1 hy)]; exact h y hy⟩
 have hB : ud m σ o = true → ud m σ' o = true := fun h => by
  unfold ud at h ⊢
  rw [List.all_eq_true] at h ⊢
  intro y hy
  have := h y hy
  rw [hsv y (Array.mem_toList_iff.1 hy)]
  cases e : (σ.sv y).top with
  | none => rfl
  | some k =>
   rw [e] at this
   simp only [Bool.and_eq_true] at this ⊢
   have h2 : k < RE m σ.nb := Nat.le_of_ble_eq_true this.2
   rw [hG.bl k h2]
   exact ⟨this.1, Nat.ble_eq_true_of_le (Nat.lt_of_lt_of_le h2 (tD hG.nb))⟩
 unfold pass ss at h ⊢
 rw [hW]
 simp only [Bool.and_eq_true, Bool.or_eq_true] at h ⊢
 exact ⟨h.1, h.2.imp id fun ⟨⟨a, b⟩, c⟩ => ⟨⟨a, hB b⟩, c⟩⟩
theorem first (hO : zE P G) {i : Nat} {oi : Oper} {x : AV} {k : zo → Prop} (hi : ops[i]? = some oi) : ∀ (f : Nat) (L : Array Bool) (σ : zo), Closed ops L →
  (∀ j oj, ops[j]? = some oj → j ≠ i → L.getD j true = false → ¬ MZ ops i j → (late j = false ∨ pass G m σ oi oj = true) ∧ oi.apart ops.toArray oj = true) → i ∈ Region.ready .any ops.toArray L →
  y5 G m ops σ oi = true → RD P G ops σ oi x → XB P G m ops late f (L.setIfInBounds i true) (σ.put oi.dst x) k → XB P G m ops late (f + 1) L σ k := by
 intro f
 have self : ∀ (f : Nat) (L : Array Bool) (σ : zo), RD P G ops σ oi x → XB P G m ops late f (L.setIfInBounds i true) (σ.put oi.dst x) k →
   stepJ P G m ops (late i) oi σ fun σ' => XB P G m ops late f (L.setIfInBounds i true) σ' k := fun f L σ hr H => by
  cases late i with
  | true => exact sw (m := m) (QM hr H)
  | false => exact QM hr H
 induction f with
 | zero =>
  intro L σ hL hs hr he hres H
  refine ⟨fun h => (by rw [h] at hr; cases hr), fun j hj o ho => ?_⟩
  by_cases hji : j = i
  ·subst hji
   rw [hi] at ho; cases ho
   exact self 0 L σ hres H
  ·have := ready_mono hj hji
   rw [H.1] at this
   cases this
 | succ f ih =>
  intro L σ hL hs hr he hres H
  refine ⟨fun h => (by rw [h] at hr; cases hr), fun j hj o ho => ?_⟩
  by_cases hji : j = i
  ·subst hji
   rw [hi] at ho; cases ho
   exact self (f + 1) L σ hres H
  ·have h1 := H.2 j (ready_mono hj hji) o ho
   obtain ⟨hjun, oj, hoj, hall⟩ := mem_ready.1 hj
   rw [List.getElem?_toArray, ho] at hoj
   cases hoj
   have hiun := (mem_ready.1 hr).1
   have hnot : ¬ MZ ops i j := fun hA => by
    have := PT hL hA ho hall
    rw [T5 hiun] at this
    cases this
   obtain ⟨hlate, hap⟩ := hs j o ho hji hjun hnot
   obtain ⟨a1, a2, a3⟩ := Oper.apart_spec hap
   have next : ∀ σ', (∀ oj, pass G m σ oi oj = true → pass G m σ' oi oj = true) → RD P G ops σ' oi x → y5 G m ops σ' oi = true → XB P G m ops late f ((L.setIfInBounds i true).setIfInBounds j true) (σ'.put oi.dst x) k →
     XB P G m ops late (f + 1) (L.setIfInBounds j true) σ' k := fun σ' r0 r1 r2 hA => by
    refine ih _ σ' (hL.set hj) (fun n on hn hni hnun hnA => ?_) (ready_mono hr (Ne.symm hji)) r2 r1 ?_
    ·have := hs n on hn hni (by
      by_cases hjn : j = n
      ·subst hjn; exact hjun
      ·rw [getD_set_ne true hjn] at hnun; exact hnun) hnA
     exact ⟨this.1.imp id (r0 on), this.2⟩
    ·rw [Array.setIfInBounds_comm _ _ hji]
     exact hA
   cases hlt : late j with
   | false =>
    rw [hlt] at h1
    have h2 := NY a1 a2 h1
    refine v6 (fun σ' h => ?_) h2
    obtain ⟨hG, hA⟩ := h
    obtain ⟨r1, r2⟩ := mj hG a3 he hres
    exact next σ' (fun on => OE hG a3) r1 r2 hA
   | true =>
    have hp := hlate.resolve_left (by rw [hlt]; simp)
    rw [hlt] at h1
    have hq := hp
    unfold pass at hq
    rw [Bool.and_eq_true] at hq
    cases hw : ss σ oi with
    | true =>
     refine wR hO (fun σ' h => ?_) (qn hO hq.1 a1 a2 h1)
     obtain ⟨hK, hA⟩ := h
     obtain ⟨r1, r2, r3⟩ := Mf hK hw a3 he hres
     exact next σ' (fun on h => by unfold pass at h ⊢; rw [Bool.and_eq_true] at h ⊢; exact ⟨h.1, by rw [r3]; rfl⟩) r1 r2 hA
    | false =>
     rw [hw, Bool.false_or, Bool.and_eq_true] at hq
     have h2 := Ll hO hq.1 hq.2.2 (qn hO hq.1 a1 a2 h1)
     refine wR hO (fun σ' h => ?_) h2
     obtain ⟨hK, _, hA⟩ := h
     obtain ⟨r1, r2, r3⟩ := nW hK hq.2.1 a3 he hres
     exact next σ' (fun on h => by
      unfold pass at h ⊢
      rw [hw, Bool.false_or, Bool.and_eq_true, Bool.and_eq_true] at h
      rw [Bool.and_eq_true, Bool.or_eq_true, Bool.and_eq_true]
      exact ⟨h.1, .inr ⟨r3, h.2.2⟩⟩) r1 r2 hA
theorem Mk {σ : zo} {A : List Nat} {L : Array Bool} {i : Nat} {oi : Oper} (hA : ∀ j i, (A.getD j 0).testBit i = true → MZ ops i j) (h : eJ G m σ ops A late L i oi = true) :
  ∀ j oj, ops[j]? = some oj → j ≠ i → L.getD j true = false → ¬ MZ ops i j → (late j = false ∨ pass G m σ oi oj = true) ∧ oi.apart ops.toArray oj = true := fun j oj hj hji hun hno => by
 have hlt : j < ops.length := (List.getElem?_eq_some_iff.1 hj).1
 have := List.all_eq_true.1 h j (List.mem_range.2 hlt)
 simp only [hj, Bool.or_eq_true, Bool.and_eq_true, Bool.not_eq_true'] at this
 rcases this with ((h1 | h1) | h1) | h1
 ·exact absurd (by simpa using h1) hji
 ·exact absurd (hA _ _ h1) hno
 ·rw [hun] at h1; cases h1
 ·exact h1
theorem V1 (hO : zE P G) {A : List Nat} (hA : ∀ j i, (A.getD j 0).testBit i = true → MZ ops i j) {k : zo → Prop} : ∀ (f : Nat) (L : Array Bool) (σ : zo), Closed ops L →
  w8 P G m ops A late f L σ k → XB P G m ops late f L σ k
 | 0, L, σ, _, h => by
  unfold w8 at h
  split at h
  ·rename_i hr; exact ⟨hr, h⟩
  ·exact h.elim
 | f + 1, L, σ, hL, h => by
  unfold w8 at h
  split at h
  ·rename_i hr
   exact ⟨fun _ => h, fun j hj => by rw [hr] at hj; cases hj⟩
  ·rename_i hne
   split at h
   ·rename_i i hf
    have hmem := List.mem_of_find?_eq_some hf
    have he := List.find?_some hf
    split at h
    ·rename_i o ho
     unfold lu at he
     rw [ho] at he
     simp only [Bool.and_eq_true] at he
     obtain ⟨x, h1, h2⟩ := Qd he.1 h
     exact first hO ho f L σ hL (Mk hA he.2) hmem he.1 h1 (V1 hO hA f _ _ (hL.set hmem) h2)
    ·exact h.elim
   ·refine ⟨fun hr => (hne hr).elim, fun j hj o ho => ?_⟩
    have := (sC _ _).1 h j hj
    rw [ho] at this
    exact tr hO (fun σ' h' => V1 hO hA f _ _ (hL.set hj) h') this
section
variable {E : Env} {r : Option Nat} {n : Nat}
theorem VO (hO : zE P E.G) (hY : yD P E) {Q : Exit → Act → World → Prop} {k : zo → Prop} (hK : ∀ σ' a' w', k σ' → St E σ' a' w' → Q .normal a' w') : ∀ (f : Nat) (L : Array Bool) {σ : zo} {a : Act} {w : World},
  XB P E.G m ops late f L σ k → St E σ a w → wpAnyIn (FW r) n P .any ops.toArray Q f L a w
 | 0, _, _, _, _, h, hst => ⟨h.1, hK _ _ _ h.2 hst⟩
 | f + 1, L, σ, a, w, h, hst => by
  refine ⟨fun hr => hK _ _ _ (h.1 hr) hst, fun j hj => ?_⟩
  obtain ⟨_, o, ho, _⟩ := mem_ready.1 hj
  have ho' := ho
  rw [List.getElem?_toArray] at ho'
  have hv := lm (h.2 j hj o ho')
  have key : ∀ σ' a' w', XB P E.G m ops late f (L.setIfInBounds j true) σ' k → St E σ' a' w' → wpAnyIn (FW r) n P .any ops.toArray Q f (L.setIfInBounds j true) a' w' :=
   fun σ' a' w' hv' hst' => VO hO hY hK f _ hv' hst'
  unfold wpOpIn
  rw [ho]
  simp only [wO] at hv ⊢
  cases hg : o.guard with
  | none =>
   rw [hg] at hv
   simp only [Region.wanted, hg, if_true]
   exact SU hO hY hv hst key
  | some jw =>
   obtain ⟨j', want⟩ := jw
   rw [hg] at hv
   simp only at hv
   split at hv
   ·rename_i g hga
    have hw : Region.wanted o (yielded ops.toArray a.tmps) = g := by
     obtain ⟨S, ρ, _, hF, _⟩ := hst
     simp only [Region.wanted, hg]
     exact UY hga hF
    obtain ⟨h1, h2⟩ := TI (r := r) (n := n) (Q := Q) hO hY hv hst key
    rw [hw]
    cases g with
    | true => simp_all
    | false => rw [if_neg (by simp)]; exact ⟨fun _ _ => trivial, h2 rfl⟩
   ·exact hv.elim
theorem St.drew {σ : zo} {a : Act} {w : World} (h : St E σ a w) : St E σ a { w with drawn := w.drawn + 1 } := by
 obtain ⟨S, ρ, hM, hF, hD⟩ := h
 have hS : ∀ b, S b → S b ∧ ({ w with drawn := w.drawn + 1 } : World).heap[b]? = w.heap[b]? := fun b hb => ⟨hb, rfl⟩
 exact ⟨S, ρ, ⟨⟨hM.fr.os, hM.fr.tape, hM.fr.output, hM.fr.size, hM.fr.block, Nat.le_trans hM.fr.drawn (se w 1)⟩, hM.sb, hM.sup, hM.sub, hM.glob, hM.hi,
  fun k hk => (hM.ok k hk).mono hS (zf.refl _) fun _ _ => rfl, hM.own, hM.dis, hM.b0, hM.nbz, hM.ole⟩, hF.mono hS (zf.refl _), hD.mono hS⟩
def tF (j : Nat) : List Oper → List Nat → Bool
 | o :: os, a :: as => (a.testBit j || (match o.op with | .move _ => true | _ => false)) && tF j os as
 | _, _ => true
def Qv (m : Nat) : Nat → List Oper → Bool
 | 0, _ => true
 | _, [] => true
 | j + 1, o :: os => (m.testBit 0 || (match o.op with | .move _ => true | _ => false)) && Qv (m / 2) j os
def po (G : Cx) (ops : List Oper) (A : List Nat) (j : Nat) : Bool :=
 match ops[j]? with
 | some o =>
  match o.op with
  | .store _ _ _ => true
  | .mapUpdate _ _ _ _ => true
  | .entryStore _ _ _ _ => true
  | .call { callee := .builtin .clear, .. } => true
  | .call { callee := .value (.func f), .. } => (G.own f).isSome || (Nat.beq ((A.getD j 0) &&& (2 ^ j - 1)) (2 ^ j - 1) && tF j (ops.drop (j + 1)) (A.drop (j + 1)))
  | .call { callee := .builtin .append, .. } => Qv (A.getD j 0) j ops
  | _ => Nat.beq ((A.getD j 0) &&& (2 ^ j - 1)) (2 ^ j - 1) && tF j (ops.drop (j + 1)) (A.drop (j + 1))
 | none => false
def GD (o : Oper) : Bool :=
 match o.op with
 | .call { callee := .builtin .append, .. } => true
 | _ => false
def SA {α : Sort u} : Nat → (Nat → α) → α
 | 0, k => k 0
 | n + 1, k => SA n fun m => k (Nat.succ m)
theorem W0 {α : Sort u} : ∀ (n : Nat) (k : Nat → α), SA n k = k n
 | 0, _ => rfl
 | n + 1, k => W0 n _
def FG (σ : zo) : Nat := σ.nb
def Vy (P : Program) (G : Cx) (ops : List Oper) (σ : zo) (k : zo → Prop) : Prop :=
 match ops.any GD with
 | true => SA (FG σ) fun m => w8 P G (some m) ops (qL ops []) (po G ops (qL ops [])) ops.length (Array.replicate ops.length false) σ k
 | false => w8 P G none ops (qL ops []) (po G ops (qL ops [])) ops.length (Array.replicate ops.length false) σ k
theorem TO (hO : zE P E.G) (hY : yD P E) {id : Nat} {ops : Array Oper} {σ : zo} {a : Act} {w : World} {k : zo → Prop} {Q : Exit → Act → World → Prop} (hm : P.follows .mixedOrders = true) (hv : Vy P E.G ops.toList σ k) (hst : St E σ a w)
  (hK : ∀ σ' a' w', k σ' → St E σ' a' w' → Q .normal a' w') : (Code.region id ops true).wpIn (FW r) n P Q a w := by
 refine wpIn_region_any hm ?_
 obtain ⟨m, hv⟩ : ∃ m, w8 P E.G m ops.toList (qL ops.toList []) (po E.G ops.toList (qL ops.toList [])) ops.toList.length (Array.replicate ops.toList.length false) σ k := by
  unfold Vy at hv
  split at hv
  ·rw [W0] at hv; exact ⟨_, hv⟩
  grind
 have h1 := V1 hO (su ops.toList [] (by simp) fun j i h => by simp at h) _ _ _ (fun j o _ hL => by simp [Array.getD_eq_getD_getElem?, Array.getElem?_replicate] at hL; split at hL <;> simp at hL) hv
 have := VO hO hY (r := r) (n := n) (Q := Q) hK _ _ h1 hst.drew
 omega
end
end
end Go.Sx

namespace Go.Sx
universe u
open Go Go.RowKit
def fc : Value → Value → Prop
 | .int k a, .int k' b => k = k' ∧ a = b
 | .bool a, .bool b => a = b
 | x, y => x = y
theorem hH {x y : Value} (h : fc x y) : x = y := by
 unfold fc at h
 grind
def vD (p : Nat → Prop) : Nat → Prop
 | 0 => True
 | 1 => p 0
 | n + 1 => vD p n ∧ p n
theorem wM {p : Nat → Prop} {n : Nat} (h : vD p n) : ∀ i, i < n → p i := by
 induction n with
 | zero => omega
 | succ n ih =>
  intro i hi
  cases n with
  | zero =>
   have : i = 0 := by omega
   rw [this]; exact h
  | succ n =>
   by_cases e : i = n + 1
   ·rw [e]; exact h.2
   ·exact ih h.1 i (by omega)
def zB : AV → AV → Prop
 | .v a, y =>
  match y with
  | .junk => True
  | .v b => fc a b
  | .xl _ _ len _ => a = .slice none 0 0 ∧ len = 0
  | _ => False
 | .str a, y =>
  match y with
  | .junk => True
  | .str b => a = b
  | _ => False
 | .xl f sz len els, y =>
  match y with
  | .junk => True
  | .xl f' sz' len' els' => (f' = true → f = true) ∧ sz' = sz ∧ len' = len ∧ ∀ i j, i < len → j < sz → zB (els i j) (els' i j)
  | _ => False
 | .xq n cells off, y =>
  match y with
  | .junk => True
  | .xq n' cells' off' => n' = n ∧ off' = off ∧ vD (fun i => zB (cells i) (cells' i)) n
  | _ => False
 | .np k o, y =>
  match y with
  | .junk => True
  | .np k' o' => k' = k ∧ o' = o
  | _ => False
 | .ns k o l, y =>
  match y with
  | .junk => True
  | .ns k' o' l' => k' = k ∧ o' = o ∧ l' = l
  | _ => False
 | .ap k i j, y =>
  match y with
  | .junk => True
  | .ap k' i' j' => k' = k ∧ i' = i ∧ j' = j
  | _ => False
 | .agg n cs, y =>
  match y with
  | .junk => True
  | .agg n' cs' => n' = n ∧ vD (fun i => zB (cs i) (cs' i)) n
  | _ => False
 | .tup n cs, y =>
  match y with
  | .junk => True
  | .tup n' cs' => n' = n ∧ vD (fun i => zB (cs i) (cs' i)) n
  | _ => False
 | .fn f nf a nc b, y =>
  match y with
  | .junk => True
  | .fn f' nf' a' nc' b' => f' = f ∧ nf' = nf ∧ nc' = nc ∧ vD (fun i => zB (a i) (a' i)) nf ∧ vD (fun i => zB (b i) (b' i)) nc
  | _ => False
 | .gd g x, y =>
  match y with
  | .junk => True
  | .gd g' x' => g' = g ∧ zB x x'
  | y => g = true ∧ zB x y
 | .yl k, y =>
  match y with
  | .junk => True
  | .yl k' => k' = k
  | _ => False
 | .nb p z, y =>
  match y with
  | .junk => True
  | .nb p' z' => p' = p ∧ (z = true → z' = true)
  | _ => False
 | .er z, y =>
  match y with
  | .junk => True
  | .er z' => z' = z
  | _ => False
 | .ps k l, y =>
  match y with
  | .junk => True
  | .ps k' l' => k' = k ∧ l' = l
  | _ => False
 | .mp k, y =>
  match y with
  | .junk => True
  | .mp k' => k' = k
  | _ => False
 | .junk, y =>
  match y with
  | .junk => True
  | _ => False
section
variable {w : World} {S : Nat → Prop}
theorem wy {x y : AV} {v : Value} {ρ : Nat → Own} (hx : zF w S ρ x v) (h : zB x y) : zF w S ρ y v := by
 induction hx generalizing y with
 | v x =>
  unfold zB at h
  split at h
  ·exact .junk _
  ·rw [← hH h]; exact .v _
  ·obtain ⟨rfl, rfl⟩ := h
   exact .xl none 0 (fun _ _ => undef) (Nat.le_refl _) (Nat.zero_le _) (fun _ => rfl) (fun i j hi _ => absurd hi (Nat.not_lt_zero _)) fun i j hi _ => absurd hi (Nat.not_lt_zero _)
  ·exact h.elim
 | str l =>
  unfold zB at h
  split at h
  ·exact .junk _
  ·rw [← h]; exact .str _
  ·exact h.elim
 | xl o cap cvs hle hm hf hc hr ih =>
  unfold zB at h
  split at h
  ·exact .junk _
  ·obtain ⟨h1, rfl, rfl, h4⟩ := h
   exact .xl o cap cvs hle hm (fun e => hf (h1 e)) hc fun i j hi hj => ih i j hi hj (h4 i j hi hj)
  ·exact h.elim
 | xq A cvs hc hr ih =>
  unfold zB at h
  split at h
  ·exact .junk _
  ·obtain ⟨rfl, rfl, h4⟩ := h
   exact .xq A cvs hc fun i hi => ih i hi (wM h4 i hi)
  ·exact h.elim
 | np g h0 =>
  unfold zB at h
  split at h
  ·exact .junk _
  ·obtain ⟨rfl, rfl⟩ := h; exact .np g h0
  ·exact h.elim
 | ns g base cap sz L h0 hl hc =>
  unfold zB at h
  split at h
  ·exact .junk _
  ·obtain ⟨rfl, rfl, rfl⟩ := h; exact .ns g base cap sz L h0 hl hc
  ·exact h.elim
 | ns0 g base cap sz L A h0 hl hc hz =>
  unfold zB at h
  split at h
  ·exact .junk _
  ·obtain ⟨rfl, rfl, rfl⟩ := h; exact .ns0 g base cap sz L A h0 hl hc hz
  ·exact h.elim
 | nsn sz o h0 =>
  unfold zB at h
  split at h
  ·exact .junk _
  ·obtain ⟨rfl, rfl, rfl⟩ := h; exact .nsn sz o h0
  ·exact h.elim
 | ap g base cap sz L h0 hi hc =>
  unfold zB at h
  split at h
  ·exact .junk _
  ·obtain ⟨rfl, rfl, rfl⟩ := h; exact .ap g base cap sz L h0 hi hc
  ·exact h.elim
 | yl g r h0 =>
  unfold zB at h
  split at h
  ·exact .junk _
  ·rw [h]; exact .yl g r h0
  ·exact h.elim
 | dyl h0 hx =>
  unfold zB at h
  split at h
  ·exact .junk _
  ·rw [h]; exact .dyl h0 hx
  ·exact h.elim
 | dnp h0 hx =>
  unfold zB at h
  split at h
  ·exact .junk _
  ·obtain ⟨rfl, rfl⟩ := h; exact .dnp h0 hx
  ·exact h.elim
 | dns h0 hx =>
  unfold zB at h
  split at h
  ·exact .junk _
  ·obtain ⟨rfl, rfl, rfl⟩ := h; exact .dns h0 hx
  ·exact h.elim
 | dap h0 hx =>
  unfold zB at h
  split at h
  ·exact .junk _
  ·obtain ⟨rfl, rfl, rfl⟩ := h; exact .dap h0 hx
  ·exact h.elim
 | agg vs hn hr ih =>
  unfold zB at h
  split at h
  ·exact .junk _
  ·obtain ⟨rfl, h2⟩ := h; exact .agg vs hn fun i hi => ih i hi (wM h2 i hi)
  ·exact h.elim
 | tup vs hn hr ih =>
  unfold zB at h
  split at h
  ·exact .junk _
  ·obtain ⟨rfl, h2⟩ := h; exact .tup vs hn fun i hi => ih i hi (wM h2 i hi)
  ·exact h.elim
 | fn vs us hn hm hr hs ih1 ih2 =>
  unfold zB at h
  split at h
  ·exact .junk _
  ·obtain ⟨rfl, rfl, rfl, h4, h5⟩ := h
   exact .fn vs us hn hm (fun i hi => ih1 i hi (wM h4 i hi)) fun i hi => ih2 i hi (wM h5 i hi)
  ·exact h.elim
 | gd v h1 h2 ih =>
  unfold zB at h
  split at h
  ·exact .junk _
  ·obtain ⟨rfl, h4⟩ := h; exact .gd v (fun hg => ih hg h4) h2
  ·exact ih h.1 h.2
 | nb t h0 =>
  unfold zB at h
  split at h
  ·exact .junk _
  ·obtain ⟨rfl, h2⟩ := h; exact .nb t fun e => h2 (h0 e)
  ·exact h.elim
 | er x h1 h2 =>
  unfold zB at h
  split at h
  ·exact .junk _
  ·rw [h]; exact .er x h1 h2
  ·exact h.elim
 | ps g cap h0 hc =>
  unfold zB at h
  split at h
  ·exact .junk _
  ·obtain ⟨rfl, rfl⟩ := h; exact .ps g cap h0 hc
  ·exact h.elim
 | dps h0 hx =>
  unfold zB at h
  split at h
  ·exact .junk _
  ·obtain ⟨rfl, rfl⟩ := h; exact .dps h0 hx
  ·exact h.elim
 | mp g h0 =>
  unfold zB at h
  split at h
  ·exact .junk _
  ·rw [h]; exact .mp g h0
  ·exact h.elim
 | dmp h0 hx =>
  unfold zB at h
  split at h
  ·exact .junk _
  ·rw [h]; exact .dmp h0 hx
  ·exact h.elim
 | junk x =>
  unfold zB at h
  split at h
  ·exact .junk _
  ·exact h.elim
theorem zr : ∀ x : AV, zB x x
 | .v a => by
  show fc a a
  cases a with
  | int => exact ⟨rfl, rfl⟩
  | bool => exact (rfl : _ = _)
  | _ => exact (rfl : _ = _)
 | .str a => rfl
 | .xl f sz len els => ⟨fun h => h, rfl, rfl, fun i j _ _ => zr _⟩
 | .xq n cells off => ⟨rfl, rfl, by
  have h : ∀ i, zB (cells i) (cells i) := fun i => zr _
  induction n with
  | zero => trivial
  | succ n ih => cases n with
   | zero => exact h 0
   | succ n => exact ⟨ih, h _⟩⟩
 | .np k o => ⟨rfl, rfl⟩
 | .ns k o l => ⟨rfl, rfl, rfl⟩
 | .ap k i j => ⟨rfl, rfl, rfl⟩
 | .agg n cs => ⟨rfl, by
  have h : ∀ i, zB (cs i) (cs i) := fun i => zr _
  induction n with
  | zero => trivial
  | succ n ih => cases n with
   | zero => exact h 0
   | succ n => exact ⟨ih, h _⟩⟩
 | .tup n cs => ⟨rfl, by
  have h : ∀ i, zB (cs i) (cs i) := fun i => zr _
  induction n with
  | zero => trivial
  | succ n ih => cases n with
   | zero => exact h 0
   | succ n => exact ⟨ih, h _⟩⟩
 | .fn f nf a nc b => ⟨rfl, rfl, rfl, by
  have h : ∀ i, zB (a i) (a i) := fun i => zr _
  induction nf with
  | zero => trivial
  | succ n ih => cases n with
   | zero => exact h 0
   | succ n => exact ⟨ih, h _⟩, by
  have h : ∀ i, zB (b i) (b i) := fun i => zr _
  induction nc with
  | zero => trivial
  | succ n ih => cases n with
   | zero => exact h 0
   | succ n => exact ⟨ih, h _⟩⟩
 | .gd g x => ⟨rfl, zr x⟩
 | .yl k => (rfl : k = k)
 | .nb p z => ⟨rfl, fun h => h⟩
 | .er z => (rfl : z = z)
 | .ps k l => ⟨rfl, rfl⟩
 | .mp k => (rfl : k = k)
 | .junk => trivial
theorem ZA {x y : AV} (h : x = y) : zB x y := h ▸ zr x
end
def Qz : List (Option Nat) → Nat → Nat → Option Nat
 | [], _, _ => none
 | o :: os, i, k =>
  match o with
  | some k' => bif Nat.beq k' k then some i else Qz os (i + 1) k
  | none => Qz os (i + 1) k
def ren (inv : Nat → Option Nat) : AV → AV
 | .np k o =>
  match inv k with
  | some i => .np i o
  | none => .junk
 | .ns k o l =>
  match inv k with
  | some i => .ns i o l
  | none => .junk
 | .ap k i j =>
  match inv k with
  | some k' => .ap k' i j
  | none => .junk
 | .agg n cs => .agg n fun i => ren inv (cs i)
 | .tup n cs => .tup n fun i => ren inv (cs i)
 | .fn f nf a nc b => .fn f nf (fun i => ren inv (a i)) nc fun i => ren inv (b i)
 | .gd g x => .gd g (ren inv x)
 | .yl k =>
  match inv k with
  | some i => .yl i
  | none => .junk
 | .ps k l =>
  match inv k with
  | some i => .ps i l
  | none => .junk
 | .mp k =>
  match inv k with
  | some i => .mp i
  | none => .junk
 | x => x
theorem ji {w : World} {S : Nat → Prop} {ρ ρ' : Nat → Own} {inv : Nat → Option Nat} {x : AV} {v : Value} (hi : ∀ k i, inv k = some i → ρ' i = ρ k ∨ ρ' i = .dead) (h : zF w S ρ x v) :
  zF w S ρ' (ren inv x) v := by
 induction h with
 | v x => exact .v x
 | str l => exact .str l
 | xl o cap cvs hle hm hf hc hr ih => exact .xl o cap cvs hle hm hf hc hr
 | xq A cvs hc hr ih => exact .xq A cvs hc hr
 | np g h =>
  simp only [ren]
  split
  ·rename_i i e
   rcases hi _ _ e with e' | e'
   ·exact .np g (e'.trans h)
   ·exact .dnp e' ⟨_, rfl⟩
  ·exact .junk _
 | ns g base cap sz L h hl hc =>
  simp only [ren]
  split
  ·rename_i i e
   rcases hi _ _ e with e' | e'
   ·exact .ns g base cap sz L (e'.trans h) hl hc
   ·exact .dns e' ⟨_, _, rfl⟩
  ·exact .junk _
 | ns0 g base cap sz L A h hl hc h0 =>
  simp only [ren]
  split
  ·rename_i i e
   rcases hi _ _ e with e' | e'
   ·exact .ns0 g base cap sz L A (e'.trans h) hl hc h0
   ·exact .dns e' ⟨_, _, rfl⟩
  ·exact .junk _
 | nsn sz o h =>
  simp only [ren]
  split
  ·rename_i i e
   rcases hi _ _ e with e' | e'
   ·exact .nsn sz o (e'.trans h)
   ·exact .dns e' ⟨_, _, rfl⟩
  ·exact .junk _
 | ap g base cap sz L h hl hc =>
  simp only [ren]
  split
  ·rename_i i e
   rcases hi _ _ e with e' | e'
   ·exact .ap g base cap sz L (e'.trans h) hl hc
   ·exact .dap e' ⟨_, rfl⟩
  ·exact .junk _
 | yl g r h =>
  simp only [ren]
  split
  ·rename_i i e
   rcases hi _ _ e with e' | e'
   ·exact .yl g r (e'.trans h)
   ·exact .dyl e' ⟨_, rfl⟩
  ·exact .junk _
 | dyl h hx =>
  simp only [ren]
  split
  ·rename_i i e
   rcases hi _ _ e with e' | e'
   ·exact .dyl (e'.trans h) hx
   ·exact .dyl e' hx
  ·exact .junk _
 | dnp h hx =>
  simp only [ren]
  split
  ·rename_i i e
   rcases hi _ _ e with e' | e'
   ·exact .dnp (e'.trans h) hx
   ·exact .dnp e' hx
  ·exact .junk _
 | dns h hx =>
  simp only [ren]
  split
  ·rename_i i e
   rcases hi _ _ e with e' | e'
   ·exact .dns (e'.trans h) hx
   ·exact .dns e' hx
  ·exact .junk _
 | dap h hx =>
  simp only [ren]
  split
  ·rename_i i e
   rcases hi _ _ e with e' | e'
   ·exact .dap (e'.trans h) hx
   ·exact .dap e' hx
  ·exact .junk _
 | agg vs hn hr ih => exact .agg vs hn fun i h => ih i h hi
 | tup vs hn hr ih => exact .tup vs hn fun i h => ih i h hi
 | fn vs us hn hm hr hs ih1 ih2 => exact .fn vs us hn hm (fun i h => ih1 i h hi) fun i h => ih2 i h hi
 | gd v h h' ih => exact .gd v (fun h => ih h hi) h'
 | nb t h => exact .nb t h
 | er x h1 h2 => exact .er x h1 h2
 | ps g cap h hc =>
  simp only [ren]
  split
  ·rename_i i e
   rcases hi _ _ e with e' | e'
   ·exact .ps g cap (e'.trans h) hc
   ·exact .dps e' ⟨_, _, rfl⟩
  ·exact .junk _
 | dps h hx =>
  simp only [ren]
  split
  ·rename_i i e
   rcases hi _ _ e with e' | e'
   ·exact .dps (e'.trans h) hx
   ·exact .dps e' hx
  ·exact .junk _
 | mp g h =>
  simp only [ren]
  split
  ·rename_i i e
   rcases hi _ _ e with e' | e'
   ·exact .mp g (e'.trans h)
   ·exact .dmp e' ⟨_, rfl⟩
  ·exact .junk _
 | dmp h hx =>
  simp only [ren]
  split
  ·rename_i i e
   rcases hi _ _ e with e' | e'
   ·exact .dmp (e'.trans h) hx
   ·exact .dmp e' hx
  ·exact .junk _
 | junk x => exact .junk x
def fz (ks : List (Option Nat)) (x y : AV) : Prop :=
 match x, y with
 | .v (.slice none 0 0), .ns i o l => ks[i]? = some none ∧ o = 0 ∧ l = 0
 | .xl f _ len _, .ns i o l => ks[i]? = some none ∧ o = 0 ∧ l = 0 ∧ f = true ∧ len = 0
 | x, y => zB (ren (Qz ks 0) x) y
def El (ks : List (Option Nat)) : OB → OB → Prop
 | _, .dead => True
 | .box t n cells, .box t' n' cells' => t' = t ∧ n' = n ∧ vD (fun i => fz ks (cells i) (cells' i)) n
 | .arr t sz len els, .arr t' sz' len' els' => t' = t ∧ sz' = sz ∧ len' = len ∧ ∀ i j, i < len → j < sz → zB (els i j) (els' i j)
 | .lrec st pend, .lrec st' pend' => st' = st ∧ pend' = pend
 | .mp k1 f, .mp k2 f' => k2 = k1 ∧ ∀ a b, fz ks (f a b) (f' a b)
 | _, _ => False
def Fb : OB → Prop
 | .dead => True
 | .arr _ _ len _ => len = 0
 | _ => False
def Ri : OB → Bool
 | .dead => true
 | _ => false
def distinct : List (Option Nat) → Bool
 | [] => true
 | some k :: ks => !ks.contains (some k) && distinct ks
 | none :: ks => distinct ks
def G0 (nb : Nat) : List (Option Nat) → Bool
 | [] => true
 | some k :: ks => Nat.blt k nb && G0 nb ks
 | none :: ks => G0 nb ks
def lk (vars : List (Nat × AV)) (t : Nat) : AV :=
 match vars with
 | [] => .junk
 | (t', x) :: vs => bif Nat.beq t' t then x else lk vs t
def LU (blks : List (Nat × OB)) (d : Nat → OB) (t : Nat) : OB :=
 match blks with
 | [] => d t
 | (t', x) :: vs => bif Nat.beq t' t then x else LU vs d t
def RF (σ : zo) (i : Nat) : List (Nat × AV) → Option Nat
 | [] => some i
 | (t, x) :: vs =>
  match x.top with
  | some k => bif Nat.beq k i then (σ.ev (.tmp t)).strip.top else RF σ i vs
  | none => RF σ i vs
def pQ (σ : zo) (i : Nat) : List (Nat × AV) → Option Nat
 | [] => none
 | (t, x) :: vs =>
  match x.top with
  | some k => bif Nat.beq k i then (σ.ev (.tmp t)).strip.top else pQ σ i vs
  | none => pQ σ i vs
def ta (σ : zo) (vars : List (Nat × AV)) (bl : Nat → OB) (i : Nat) : Nat → Option Nat
 | 0 => none
 | t + 1 =>
  match bl t, σ.bl ((RF σ t vars).getD t) with
  | .box _ n cs, .box _ _ cs' =>
   match (List.range n).findSome? (fun j => match (cs j).top with | some k => bif Nat.beq k i then (cs' j).strip.top else none | none => none) with
   | some k => some k
   | none => ta σ vars bl i t
  | _, _ => ta σ vars bl i t
def Qh (σ : zo) : Option Nat → Option Nat
 | some k => bif Nat.blt k σ.nb && !Ri (σ.bl k) then some k else none
 | none => none
def OO (σ : zo) (vars : List (Nat × AV)) (bl : Nat → OB) (nb : Nat) : List (Option Nat) :=
 (List.range nb).map fun i => bif Ri (bl i) then none else
  match Qh σ (pQ σ i vars) with
  | some k => some k
  | none =>
   match Qh σ (ta σ vars bl i nb) with
   | some k => some k
   | none => Qh σ (RF σ i vars)
def io {α : Type} (p : α → Prop) : List α → Prop
 | [] => True
 | [x] => p x
 | x :: xs => p x ∧ io p xs
theorem lB {α : Type} {p : α → Prop} {l : List α} (h : io p l) : ∀ x ∈ l, p x := by
 induction l with
 | nil => simp
 | cons y ys ih =>
  cases ys with
  | nil => intro x hx; rw [List.mem_singleton.1 hx]; exact h
  | cons z zs =>
   intro x hx
   rcases List.mem_cons.1 hx with e | e
   ·rw [e]; exact h.1
   ·exact ih h.2 x e
def Wa (n nb : Nat) (vars : List (Nat × AV)) (bl : Nat → OB) : zo := { n := n, tm := lk vars, nb := nb, bl := bl }
def Gw (nb0 : Nat) (ks : List (Option Nat)) (bl : Nat → OB) : Bool :=
 (List.range nb0).all fun i => Ri (bl i) || match ks[i]? with
  | some (some k) => Nat.beq k i
  | _ => false
def Tv {α : Sort u} : List (Option Nat) → (List (Option Nat) → α) → α
 | [], k => k []
 | none :: l, k => Tv l fun l' => k (none :: l')
 | some n :: l, k => SA n fun m => Tv l fun l' => k (some m :: l')
theorem uZ {α : Sort u} : ∀ (l : List (Option Nat)) (k : List (Option Nat) → α), Tv l k = k l
 | [], _ => rfl
 | none :: l, k => uZ l _
 | some n :: l, k => by
  unfold Tv
  rw [W0, uZ]
def N9 (ks : List (Option Nat)) (n nb0 : Nat) (σ : zo) (vars : List (Nat × AV)) (bl : Nat → OB) (nb : Nat) (more : Prop) : Prop :=
 match (Nat.beq σ.n n && (Nat.ble nb0 nb && Gw nb0 ks bl)) && (distinct ks && G0 σ.nb ks) with
 | true => (more ∧ io (fun p : Nat × AV => fz ks (σ.ev (.tmp p.1)) p.2) vars) ∧
   vD (fun i => match ks[i]? with
    | some (some k) => El ks (σ.bl k) (bl i)
    | _ => Fb (bl i)) nb
 | false => False
def vB (n nb0 : Nat) (σ : zo) (vars : List (Nat × AV)) (bl : Nat → OB) (nb : Nat) (more : Prop) : Prop :=
 Tv (OO σ vars bl nb) fun ks => N9 ks n nb0 σ vars bl nb more
section
variable {E : Env} {w : World} {S : Nat → Prop} {ρ : Nat → Own}
theorem Nh {ks : List (Option Nat)} {i0 k i : Nat} (h : Qz ks i0 k = some i) : i0 ≤ i ∧ ks[i - i0]? = some (some k) := by
 induction ks generalizing i0 with
 | nil => cases h
 | cons o os ih =>
  simp only [Qz] at h
  have step : Qz os (i0 + 1) k = some i → i0 ≤ i ∧ (o :: os)[i - i0]? = some (some k) := fun h => by
   grind
  split at h
  ·rename_i k'
   cases hb : Nat.beq k' k with
   | true =>
    simp_all
   | false => simp_all
  simp_all
theorem T9 {ks : List (Option Nat)} (h : distinct ks = true) : ∀ (i j k : Nat), ks[i]? = some (some k) → ks[j]? = some (some k) → i = j := by
 induction ks with
 | nil => simp
 | cons o os ih =>
  intro i j k hi hj
  have hos : distinct os = true := by cases o with
   | none => exact h
   | some k => simp only [distinct, Bool.and_eq_true] at h; exact h.2
  have hne : o = some k → ∀ m, os[m]? ≠ some (some k) := fun e m hm => by
   subst e
   simp only [distinct, Bool.and_eq_true, Bool.not_eq_true', List.contains_eq_mem, decide_eq_false_iff_not] at h
   exact h.1 (List.mem_of_getElem? hm)
  grind
theorem VS {ks : List (Option Nat)} {nb : Nat} (h : G0 nb ks = true) : ∀ k, some k ∈ ks → k < nb := by
 induction ks with
 | nil => simp
 | cons o os ih =>
  intro k hk
  cases o with
  | none =>
   rcases List.mem_cons.1 hk with e | e
   ·cases e
   ·exact ih h k e
  | some k' =>
   simp only [G0, Bool.and_eq_true] at h
   rcases List.mem_cons.1 hk with e | e
   all_goals simp_all
def yh (ks : List (Option Nat)) (bl : Nat → OB) (ρ : Nat → Own) (nb i : Nat) : Own :=
 if i < nb then
  match bl i, ks[i]? with
  | .dead, _ => .dead
  | _, some (some k) => ρ k
  | .arr _ sz _ _, _ => .nila sz
  | _, _ => .dead
 else .none
theorem re (σ : zo) (vars : List (Nat × AV)) (bl : Nat → OB) (nb : Nat) : (OO σ vars bl nb).length = nb := by simp [OO]
theorem Ro {ρ' : Nat → Own} {ks : List (Option Nat)} {x y : AV} {v : Value} (hi : ∀ k i, Qz ks 0 k = some i → ρ' i = ρ k ∨ ρ' i = .dead)
  (hn : ∀ i, ks[i]? = some none → ∃ sz, ρ' i = .nila sz ∨ ρ' i = .dead) (hx : zF w S ρ x v) (h : fz ks x y) : zF w S ρ' y v := by
 unfold fz at h
 split at h
 ·rename_i i o l
  obtain ⟨h1, rfl, rfl⟩ := h
  cases hx
  obtain ⟨sz, e | e⟩ := hn i h1
  ·exact .nsn sz none e
  ·exact .dns e ⟨_, _, rfl⟩
 ·rename_i f sz' len els i o l
  obtain ⟨h1, rfl, rfl, rfl, rfl⟩ := h
  cases hx with
  | xl o cap cvs hle hm hf hc hr =>
   obtain rfl : cap = 0 := hf rfl
   obtain ⟨sz, e | e⟩ := hn i h1
   ·exact .nsn sz o e
   ·exact .dns e ⟨_, _, rfl⟩
 ·exact wy (ji hi hx) h
end
end Go.Sx
