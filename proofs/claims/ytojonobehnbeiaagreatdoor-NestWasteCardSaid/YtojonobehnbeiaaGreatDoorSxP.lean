/- The orders of a region: taking first, going through the rest. -/
import Derived.Test.YtojonobehnbeiaaGreatDoorSxO
namespace Go.Sx
universe u
open Go Go.RowKit
inductive Anc (ops : List Oper) : Nat → Nat → Prop where
  | edge {i j : Nat} {o : Oper} {e : Edge} (ho : ops[j]? = some o) (he : e ∈ o.after) (hb : Region.binds .any e = true) (hi : e.on = i) : Anc ops i j
  | step {i j : Nat} {o : Oper} {e : Edge} (ho : ops[j]? = some o) (he : e ∈ o.after) (hb : Region.binds .any e = true) (hi : Anc ops i e.on) : Anc ops i j
def edgeMask (acc : List Nat) : List Edge → Nat
  | [] => 0
  | e :: es => bif Region.binds .any e then (1 <<< e.on) ||| acc.getD e.on 0 ||| edgeMask acc es else edgeMask acc es
def ancL : List Oper → List Nat → List Nat
  | [], acc => acc
  | o :: os, acc => ancL os (acc ++ [edgeMask acc o.after.toList])
def Closed (ops : List Oper) (L : Array Bool) : Prop :=
  ∀ j o, ops[j]? = some o → L.getD j false = true → ∀ e ∈ o.after, Region.binds .any e = true → L.getD e.on false = true
def stepJ (P : Program) (G : Cx) (m : Option Nat) (ops : List Oper) (late : Bool) (o : Oper) (σ : Sig) (k : Sig → Prop) : Prop :=
  match late with
  | true => vcOp P G ops o σ k
  | false => vcOpT P G m ops o σ k
def AllOrd (P : Program) (G : Cx) (m : Option Nat) (ops : List Oper) (late : Nat → Bool) : Nat → Array Bool → Sig → (Sig → Prop) → Prop
  | 0, L, σ, k => Region.ready .any ops.toArray L = [] ∧ k σ
  | f + 1, L, σ, k => (Region.ready .any ops.toArray L = [] → k σ) ∧
      ∀ j ∈ Region.ready .any ops.toArray L, ∀ o, ops[j]? = some o → stepJ P G m ops (late j) o σ fun σ' => AllOrd P G m ops late f (L.setIfInBounds j true) σ' k
def okI (ops : List Oper) (A : List Nat) (late : Nat → Bool) (L : Array Bool) (i : Nat) (oi : Oper) : Bool :=
  (List.range ops.length).all fun j => j == i || (A.getD j 0).testBit i || L.getD j true ||
    match ops[j]? with
    | some oj => !late j && oi.apart ops.toArray oj
    | none => true
def eagerB (G : Cx) (m : Option Nat) (ops : List Oper) (A : List Nat) (late : Nat → Bool) (L : Array Bool) (σ : Sig) (i : Nat) : Bool :=
  match ops[i]? with
  | some o => eagerD G m ops σ o && okI ops A late L i o
  | none => false
def allOf (rs : List Nat) (p : Nat → Prop) : Prop :=
  match rs with
  | [] => True
  | [i] => p i
  | i :: rs => p i ∧ allOf rs p
def vcAny (P : Program) (G : Cx) (m : Option Nat) (ops : List Oper) (A : List Nat) (late : Nat → Bool) : Nat → Array Bool → Sig → (Sig → Prop) → Prop
  | 0, L, σ, k =>
    match Region.ready .any ops.toArray L with
    | [] => k σ
    | _ => False
  | f + 1, L, σ, k =>
    match Region.ready .any ops.toArray L with
    | [] => k σ
    | rs =>
      match rs.find? (eagerB G m ops A late L σ) with
      | some i =>
        match ops[i]? with
        | some o => vcOpT P G m ops o σ fun σ' => vcAny P G m ops A late f (L.setIfInBounds i true) σ' k
        | none => False
      | none => allOf rs fun i =>
        match ops[i]? with
        | some o => stepJ P G m ops (late i) o σ fun σ' => vcAny P G m ops A late f (L.setIfInBounds i true) σ' k
        | none => False
section
variable {P : Program} {G : Cx} {m : Option Nat} {ops : List Oper} {late : Nat → Bool}
theorem edgeMask_spec {acc : List Nat} {i : Nat} : ∀ (es : List Edge), (edgeMask acc es).testBit i = true → ∃ e ∈ es, Region.binds .any e = true ∧ (e.on = i ∨ (acc.getD e.on 0).testBit i = true)
  | [], h => by simp [edgeMask] at h
  | e :: es, h => by
    unfold edgeMask at h
    cases hb : Region.binds .any e with
    | false =>
      rw [hb] at h
      obtain ⟨e', h1, h2⟩ := edgeMask_spec es h
      exact ⟨e', List.mem_cons_of_mem _ h1, h2⟩
    | true =>
      rw [hb] at h
      simp only [cond_true, Nat.testBit_or, Bool.or_eq_true] at h
      rcases h with (h | h) | h
      · refine ⟨e, List.mem_cons_self, hb, .inl ?_⟩
        rw [Nat.one_shiftLeft, Nat.testBit_two_pow] at h
        exact of_decide_eq_true h
      · exact ⟨e, List.mem_cons_self, hb, .inr h⟩
      · obtain ⟨e', h1, h2⟩ := edgeMask_spec es h
        exact ⟨e', List.mem_cons_of_mem _ h1, h2⟩
theorem ancL_spec : ∀ (os : List Oper) (acc : List Nat), (∀ j, os[j]? = ops[acc.length + j]?) → (∀ j i, (acc.getD j 0).testBit i = true → Anc ops i j) →
    ∀ j i, ((ancL os acc).getD j 0).testBit i = true → Anc ops i j
  | [], _, _, h, j, i, hi => h j i hi
  | o :: os, acc, ho, h, j, i, hi => by
    refine ancL_spec os (acc ++ [edgeMask acc o.after.toList]) (fun j => ?_) (fun j i hi => ?_) j i hi
    · have := ho (j + 1)
      simpa [Nat.add_assoc, Nat.add_comm 1 j] using this
    · by_cases hj : j < acc.length
      · rw [List.getD_eq_getElem?_getD, List.getElem?_append_left hj, ← List.getD_eq_getElem?_getD] at hi
        exact h j i hi
      · by_cases hj' : j = acc.length
        · subst hj'
          rw [List.getD_eq_getElem?_getD, List.getElem?_append_right (Nat.le_refl _)] at hi
          simp only [Nat.sub_self, List.getElem?_cons_zero, Option.getD_some] at hi
          obtain ⟨e, h1, h2, h3⟩ := edgeMask_spec _ hi
          have ho' : ops[acc.length]? = some o := by simpa using (ho 0).symm
          rcases h3 with h3 | h3
          · exact .edge ho' (Array.mem_toList_iff.1 h1) h2 h3
          · exact .step ho' (Array.mem_toList_iff.1 h1) h2 (h _ _ h3)
        · rw [List.getD_eq_getElem?_getD, List.getElem?_eq_none (by simp; omega)] at hi
          simp at hi
theorem anc_listed {L : Array Bool} (hL : Closed ops L) {i j : Nat} (h : Anc ops i j) {o : Oper} (ho : ops[j]? = some o)
    (hj : ∀ e ∈ o.after, Region.binds .any e = true → L.getD e.on false = true) : L.getD i false = true := by
  induction h generalizing o with
  | edge ho' he hb hi =>
    rw [ho'] at ho
    cases ho
    exact hi ▸ hj _ he hb
  | step ho' he hb hi ih =>
    rw [ho'] at ho
    cases ho
    have h1 := hj _ he hb
    rename_i e
    cases ho2 : ops[e.on]? with
    | none => cases hi with
      | edge h => rw [ho2] at h; cases h
      | step h => rw [ho2] at h; cases h
    | some o2 => exact ih ho2 (hL _ _ ho2 h1)
theorem getD_unlisted {L : Array Bool} {i : Nat} (h : L.getD i true = false) : L.getD i false = false := by
  rcases Nat.lt_or_ge i L.size with h' | h'
  · simp [h'] at h ⊢; exact h
  · simp [Array.getElem?_eq_none h'] at h
theorem Closed.set {L : Array Bool} (hL : Closed ops L) {j : Nat} (hj : j ∈ Region.ready .any ops.toArray L) : Closed ops (L.setIfInBounds j true) := by
  obtain ⟨hun, oj, hoj, hall⟩ := mem_ready.1 hj
  rw [List.getElem?_toArray] at hoj
  have keep : ∀ n, L.getD n false = true → (L.setIfInBounds j true).getD n false = true := fun n h => by
    by_cases e : j = n
    · subst e
      rw [getD_unlisted hun] at h
      cases h
    · simpa [Array.getD_eq_getD_getElem?, Array.getElem?_setIfInBounds, e] using h
  intro n o ho hn e he hb
  by_cases ejn : j = n
  · subst ejn
    rw [hoj] at ho
    cases ho
    exact keep _ (hall e he hb)
  · refine keep _ (hL n o ho ?_ e he hb)
    simpa [Array.getD_eq_getD_getElem?, Array.getElem?_setIfInBounds, ejn] using hn
theorem first {i : Nat} {oi : Oper} {x : AV} {k : Sig → Prop} (hi : ops[i]? = some oi) : ∀ (f : Nat) (L : Array Bool) (σ : Sig), Closed ops L →
    (∀ j oj, ops[j]? = some oj → j ≠ i → L.getD j true = false → ¬ Anc ops i j → late j = false ∧ oi.apart ops.toArray oj = true) → i ∈ Region.ready .any ops.toArray L →
    eagerD G m ops σ oi = true → Res P G ops σ oi x → AllOrd P G m ops late f (L.setIfInBounds i true) (σ.put oi.dst x) k → AllOrd P G m ops late (f + 1) L σ k := by
  intro f
  have self : ∀ (f : Nat) (L : Array Bool) (σ : Sig), Res P G ops σ oi x → AllOrd P G m ops late f (L.setIfInBounds i true) (σ.put oi.dst x) k →
      stepJ P G m ops (late i) oi σ fun σ' => AllOrd P G m ops late f (L.setIfInBounds i true) σ' k := fun f L σ hr H => by
    cases late i with
    | true => exact vcOp_of_T (m := m) (res_take hr H)
    | false => exact res_take hr H
  induction f with
  | zero =>
    intro L σ hL hs hr he hres H
    refine ⟨fun h => (by rw [h] at hr; cases hr), fun j hj o ho => ?_⟩
    by_cases hji : j = i
    · subst hji
      rw [hi] at ho; cases ho
      exact self 0 L σ hres H
    · have := ready_mono hj hji
      rw [H.1] at this
      cases this
  | succ f ih =>
    intro L σ hL hs hr he hres H
    refine ⟨fun h => (by rw [h] at hr; cases hr), fun j hj o ho => ?_⟩
    by_cases hji : j = i
    · subst hji
      rw [hi] at ho; cases ho
      exact self (f + 1) L σ hres H
    · have h1 := H.2 j (ready_mono hj hji) o ho
      obtain ⟨hjun, oj, hoj, hall⟩ := mem_ready.1 hj
      rw [List.getElem?_toArray, ho] at hoj
      cases hoj
      have hiun := (mem_ready.1 hr).1
      have hnot : ¬ Anc ops i j := fun hA => by
        have := anc_listed hL hA ho hall
        rw [getD_unlisted hiun] at this
        cases this
      obtain ⟨hlate, hap⟩ := hs j o ho hji hjun hnot
      obtain ⟨a1, a2, a3⟩ := Oper.apart_spec hap
      rw [hlate] at h1 ⊢
      have h2 := vcOpT_put a1 a2 h1
      refine vcOpT_mono (fun σ' h => ?_) h2
      obtain ⟨hG, hA⟩ := h
      obtain ⟨r1, r2⟩ := res_grow hG a3 he hres
      refine ih _ σ' (hL.set hj) (fun n on hn hni hnun hnA => ?_) (ready_mono hr (Ne.symm hji)) r2 r1 ?_
      · refine hs n on hn hni ?_ hnA
        by_cases hjn : j = n
        · subst hjn; exact hjun
        · rw [getD_set_ne true hjn] at hnun; exact hnun
      · rw [Array.setIfInBounds_comm _ _ hji]
        exact hA
theorem allOf_iff (rs : List Nat) (p : Nat → Prop) : allOf rs p ↔ ∀ i ∈ rs, p i := by
  induction rs with
  | nil => simp [allOf]
  | cons i rs ih =>
    cases rs with
    | nil => simp [allOf]
    | cons j rs => rw [show allOf (i :: j :: rs) p = (p i ∧ allOf (j :: rs) p) from rfl, ih]; simp
theorem vcBody_mono (hO : OwnSound P G) {σ : Sig} {f : FuncId} {xs : List AV} {k k' : Sig → AV → Prop} (hk : ∀ σ x, k σ x → k' σ x) (h : vcBody G σ f xs k) : vcBody G σ f xs k' := by
  unfold vcBody at h ⊢
  split at h
  · rename_i T hT
    exact (hO.own f T hT).mono _ _ _ _ _ (fun nb bl x h => hk _ _ h) h
  · exact h
theorem vcCall_mono (hO : OwnSound P G) {σ : Sig} {f : FuncId} {xs : List AV} {t : TypeId} {d : Option Tmp} {K K' : Sig → Prop} (hk : ∀ σ, K σ → K' σ) (h : vcCall P G σ f xs t d K) : vcCall P G σ f xs t d K' := by
  unfold vcCall at h ⊢
  split at h
  · rename_i h1
    rw [if_pos h1]
    split at h
    · rename_i T hT
      exact (hO.own f T hT).mono _ _ _ _ _ (fun nb bl x h => hk _ h) h
    · split at h
      · exact allP_mono (hk _) h
      split at h
      · rename_i h2
        rw [if_pos h2]
        exact callK_mono (fun r hr => hk _ hr) h
      · rename_i h2
        rw [if_neg h2]
        split at h
        · split at h
          · exact h.elim
          · rename_i h3
            rw [if_neg h3]
            split at h
            · exact allP_mono (hk _) h
            · exact callK_mono (fun r hr => hk _ hr) h
        · exact h
  · rename_i h1
    rw [if_neg h1]
    split at h
    · exact allP_mono (hk _) h
    split at h
    · exact vcBody_mono hO (fun _ _ h => hk _ h) h
    · exact callK_mono (fun r hr => hk _ hr) h
theorem vcGU_mono (hO : OwnSound P G) {g : Bool} {σ : Sig} {o : Oper} {K K' : Sig → Prop} (hk : ∀ σ, K σ → K' σ) (h : vcGU P G g σ o K) : vcGU P G g σ o K' := by
  unfold vcGU at h ⊢
  split at h
  · split at h
    · split at h
      · rw [bsplit_iff] at h ⊢
        exact ⟨fun hg => allP_mono (vcBody_mono hO fun _ _ h => hk _ h) (h.1 hg), fun hg => hk _ (h.2 hg)⟩
      · exact vcG_mono hk h
    · split at h
      · rename_i T hT
        rw [bsplit_iff] at h ⊢
        exact ⟨fun hg => allP_mono (hO.mono _ T hT _ _ _ _ _ fun nb bl x h => hk _ h) (h.1 hg), fun hg => hk _ (h.2 hg)⟩
      · exact h.elim
    · exact vcG_mono hk h
  · exact vcG_mono hk h
theorem vcU_mono (hO : OwnSound P G) {σ : Sig} {o : Oper} {K K' : Sig → Prop} (hk : ∀ σ, K σ → K' σ) (h : vcU P G σ o K) : vcU P G σ o K' := by
  unfold vcU at h ⊢
  split at h
  · split at h
    · exact hk _ h
    · exact h
  · split at h
    · exact allP_mono (hk _) h
    · exact h
  · split at h
    · split at h
      · exact allP_mono (hk _) h
      · split at h
        · exact allP_mono (hk _) h
        · exact h
    · exact h.elim
  · split at h
    · split at h
      · exact allP_mono (hk _) h
      · exact h
    · exact h
  · split at h
    · exact allP_mono (hk _) h
    · exact h
  · split at h
    · exact allP_mono (vcCall_mono hO hk) h
    · split at h
      · rename_i T hT
        exact allP_mono (hO.mono _ T hT _ _ _ _ _ fun nb bl x h => hk _ h) h
      · exact h
    · exact h
  · split at h
    · split at h
      · rename_i htt
        rw [if_pos htt]
        split at h
        · exact allP_mono (hk _) h
        · split at h
          · exact allP_mono (hk _) h
          · exact h
      · rename_i htt
        rw [if_neg htt]
        split at h
        · exact allP_mono (hk _) h
        · exact h.elim
    · exact h
  · split at h
    · exact allP_mono (hk _) h
    · exact h
theorem vcOp_mono (hO : OwnSound P G) {σ : Sig} {o : Oper} {K K' : Sig → Prop} (hk : ∀ σ, K σ → K' σ) (h : vcOp P G ops o σ K) : vcOp P G ops o σ K' := by
  unfold vcOp at h ⊢
  split at h
  · exact vcU_mono hO hk h
  · split at h
    · rename_i g _
      cases hc : G.conc && !g with
      | true => rw [hc] at h; exact hk _ h
      | false => rw [hc] at h; exact vcGU_mono hO hk h
    · exact h
theorem stepJ_mono (hO : OwnSound P G) {l : Bool} {σ : Sig} {o : Oper} {K K' : Sig → Prop} (hk : ∀ σ, K σ → K' σ) (h : stepJ P G m ops l o σ K) : stepJ P G m ops l o σ K' := by
  cases l with
  | true => exact vcOp_mono hO hk h
  | false => exact vcOpT_mono hk h
theorem stepJ_op {l : Bool} {σ : Sig} {o : Oper} {K : Sig → Prop} (h : stepJ P G m ops l o σ K) : vcOp P G ops o σ K := by
  cases l with
  | true => exact h
  | false => exact vcOp_of_T h
theorem okI_spec {A : List Nat} {L : Array Bool} {i : Nat} {oi : Oper} (hA : ∀ j i, (A.getD j 0).testBit i = true → Anc ops i j) (h : okI ops A late L i oi = true) :
    ∀ j oj, ops[j]? = some oj → j ≠ i → L.getD j true = false → ¬ Anc ops i j → late j = false ∧ oi.apart ops.toArray oj = true := fun j oj hj hji hun hno => by
  have hlt : j < ops.length := (List.getElem?_eq_some_iff.1 hj).1
  have := List.all_eq_true.1 h j (List.mem_range.2 hlt)
  simp only [hj, Bool.or_eq_true, Bool.and_eq_true, Bool.not_eq_true'] at this
  rcases this with ((h1 | h1) | h1) | h1
  · exact absurd (by simpa using h1) hji
  · exact absurd (hA _ _ h1) hno
  · rw [hun] at h1; cases h1
  · exact h1
theorem vcAny_all (hO : OwnSound P G) {A : List Nat} (hA : ∀ j i, (A.getD j 0).testBit i = true → Anc ops i j) {k : Sig → Prop} : ∀ (f : Nat) (L : Array Bool) (σ : Sig), Closed ops L →
    vcAny P G m ops A late f L σ k → AllOrd P G m ops late f L σ k
  | 0, L, σ, _, h => by
    unfold vcAny at h
    split at h
    · rename_i hr; exact ⟨hr, h⟩
    · exact h.elim
  | f + 1, L, σ, hL, h => by
    unfold vcAny at h
    split at h
    · rename_i hr
      exact ⟨fun _ => h, fun j hj => by rw [hr] at hj; cases hj⟩
    · rename_i hne
      split at h
      · rename_i i hf
        have hmem := List.mem_of_find?_eq_some hf
        have he := List.find?_some hf
        split at h
        · rename_i o ho
          unfold eagerB at he
          rw [ho] at he
          simp only [Bool.and_eq_true] at he
          obtain ⟨x, h1, h2⟩ := eager_take he.1 h
          exact first ho f L σ hL (okI_spec hA he.2) hmem he.1 h1 (vcAny_all hO hA f _ _ (hL.set hmem) h2)
        · exact h.elim
      · refine ⟨fun hr => (hne hr).elim, fun j hj o ho => ?_⟩
        have := (allOf_iff _ _).1 h j hj
        rw [ho] at this
        exact stepJ_mono hO (fun σ' h' => vcAny_all hO hA f _ _ (hL.set hj) h') this
section
variable {E : Env} {r : Option Nat} {n : Nat}
theorem allOrd_sound (hO : OwnSound P E.G) (hY : YldSound P E) {Q : Exit → Act → World → Prop} {k : Sig → Prop} (hK : ∀ σ' a' w', k σ' → St E σ' a' w' → Q .normal a' w') : ∀ (f : Nat) (L : Array Bool) {σ : Sig} {a : Act} {w : World},
    AllOrd P E.G m ops late f L σ k → St E σ a w → wpAnyIn (FW r) n P .any ops.toArray Q f L a w
  | 0, _, _, _, _, h, hst => ⟨h.1, hK _ _ _ h.2 hst⟩
  | f + 1, L, σ, a, w, h, hst => by
    refine ⟨fun hr => hK _ _ _ (h.1 hr) hst, fun j hj => ?_⟩
    obtain ⟨_, o, ho, _⟩ := mem_ready.1 hj
    have ho' := ho
    rw [List.getElem?_toArray] at ho'
    have hv := stepJ_op (h.2 j hj o ho')
    have key : ∀ σ' a' w', AllOrd P E.G m ops late f (L.setIfInBounds j true) σ' k → St E σ' a' w' → wpAnyIn (FW r) n P .any ops.toArray Q f (L.setIfInBounds j true) a' w' :=
      fun σ' a' w' hv' hst' => allOrd_sound hO hY hK f _ hv' hst'
    unfold wpOpIn
    rw [ho]
    simp only [vcOp] at hv ⊢
    cases hg : o.guard with
    | none =>
      rw [hg] at hv
      simp only [Region.wanted, hg, if_true]
      exact vcU_sound hO hY hv hst key
    | some jw =>
      obtain ⟨j', want⟩ := jw
      rw [hg] at hv
      simp only at hv
      split at hv
      · rename_i g hga
        have hw : Region.wanted o (yielded ops.toArray a.tmps) = g := by
          obtain ⟨S, ρ, _, hF, _⟩ := hst
          simp only [Region.wanted, hg]
          exact guard_sound hga hF
        obtain ⟨h1, h2⟩ := vcGX_sound (r := r) (n := n) (Q := Q) hO hY hv hst key
        rw [hw]
        cases g with
        | true => rw [if_pos rfl]; exact h1 rfl
        | false => rw [if_neg (by simp)]; exact ⟨fun _ _ => trivial, h2 rfl⟩
      · exact hv.elim
theorem St.drew {σ : Sig} {a : Act} {w : World} (h : St E σ a w) : St E σ a { w with drawn := w.drawn + 1 } := by
  obtain ⟨S, ρ, hM, hF, hD⟩ := h
  have hS : ∀ b, S b → S b ∧ ({ w with drawn := w.drawn + 1 } : World).heap[b]? = w.heap[b]? := fun b hb => ⟨hb, rfl⟩
  exact ⟨S, ρ, ⟨⟨hM.fr.os, hM.fr.tape, hM.fr.output, hM.fr.size, hM.fr.block, Nat.le_succ_of_le hM.fr.drawn⟩, hM.sb, hM.sup, hM.sub, hM.glob, hM.hi,
    fun k hk => (hM.ok k hk).mono hS (OwnLe.refl _) fun _ _ => rfl, hM.own, hM.dis, hM.b0, hM.nbz, hM.ole⟩, hF.mono hS (OwnLe.refl _), hD.mono hS⟩
def lateTail (j : Nat) : List Oper → List Nat → Bool
  | o :: os, a :: as => (a.testBit j || (match o.op with | .move _ => true | _ => false)) && lateTail j os as
  | _, _ => true
def lateHead (m : Nat) : Nat → List Oper → Bool
  | 0, _ => true
  | _, [] => true
  | j + 1, o :: os => (m.testBit 0 || (match o.op with | .move _ => true | _ => false)) && lateHead (m / 2) j os
def lateOf (ops : List Oper) (A : List Nat) (j : Nat) : Bool :=
  match ops[j]? with
  | some o =>
    match o.op with
    | .store _ _ _ => true
    | .call { callee := .builtin .append, .. } => lateHead (A.getD j 0) j ops
    | _ => Nat.beq ((A.getD j 0) &&& (2 ^ j - 1)) (2 ^ j - 1) && lateTail j (ops.drop (j + 1)) (A.drop (j + 1))
  | none => false
def isApp (o : Oper) : Bool :=
  match o.op with
  | .call { callee := .builtin .append, .. } => true
  | _ => false
def forceN {α : Sort u} : Nat → (Nat → α) → α
  | 0, k => k 0
  | n + 1, k => forceN n fun m => k (Nat.succ m)
theorem forceN_eq {α : Sort u} : ∀ (n : Nat) (k : Nat → α), forceN n k = k n
  | 0, _ => rfl
  | n + 1, k => forceN_eq n _
def regB (σ : Sig) : Nat := bif isApp1 (σ.bl (σ.nb - 1)) then σ.nb - 1 else σ.nb
def vcDraw (P : Program) (G : Cx) (ops : List Oper) (σ : Sig) (k : Sig → Prop) : Prop :=
  match ops.any isApp with
  | true => forceN (regB σ) fun m => vcAny P G (some m) ops (ancL ops []) (lateOf ops (ancL ops [])) ops.length (Array.replicate ops.length false) σ k
  | false => vcAny P G none ops (ancL ops []) (lateOf ops (ancL ops [])) ops.length (Array.replicate ops.length false) σ k
theorem draw_sound (hO : OwnSound P E.G) (hY : YldSound P E) {id : Nat} {ops : Array Oper} {σ : Sig} {a : Act} {w : World} {k : Sig → Prop} {Q : Exit → Act → World → Prop} (hm : P.follows .mixedOrders = true) (hv : vcDraw P E.G ops.toList σ k) (hst : St E σ a w)
    (hK : ∀ σ' a' w', k σ' → St E σ' a' w' → Q .normal a' w') : (Code.region id ops true).wpIn (FW r) n P Q a w := by
  refine wpIn_region_any hm ?_
  obtain ⟨m, hv⟩ : ∃ m, vcAny P E.G m ops.toList (ancL ops.toList []) (lateOf ops.toList (ancL ops.toList [])) ops.toList.length (Array.replicate ops.toList.length false) σ k := by
    unfold vcDraw at hv
    split at hv
    · rw [forceN_eq] at hv; exact ⟨_, hv⟩
    · exact ⟨_, hv⟩
  have h1 := vcAny_all hO (ancL_spec ops.toList [] (by simp) fun j i h => by simp at h) _ _ _ (fun j o _ hL => by simp [Array.getD_eq_getD_getElem?, Array.getElem?_replicate] at hL; split at hL <;> simp at hL) hv
  have := allOrd_sound hO hY (r := r) (n := n) (Q := Q) hK _ _ h1 hst.drew
  simpa using this
end
end
end Go.Sx
