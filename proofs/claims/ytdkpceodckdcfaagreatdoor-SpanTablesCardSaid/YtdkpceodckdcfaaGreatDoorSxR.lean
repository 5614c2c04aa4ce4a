/- The verification condition of code. -/
import Derived.Test.YtdkpceodckdcfaaGreatDoorSxO
set_option linter.unusedSimpArgs false
set_option linter.unusedVariables false
namespace Go.Sx
open Go Go.RowKit
section
variable {E : Env} {w : World} {S : Nat → Prop} {ρ : Nat → Own}
theorem rt {ks : List (Option Nat)} {bl : Nat → OB} {nb i k : Nat} (hi : i < nb) (hk : ks[i]? = some (some k)) : ZU ks bl ρ nb i = ρ k ∨ ZU ks bl ρ nb i = .dead := by
 unfold ZU
 rw [if_pos hi, hk]
 cases bl i <;> first | exact .inr rfl | exact .inl rfl
theorem xE {ks : List (Option Nat)} {bl : Nat → OB} {nb i k : Nat} (hi : i < nb) (hk : ks[i]? = some (some k)) (hd : uS (bl i) = false) : ZU ks bl ρ nb i = ρ k := by
 unfold ZU
 rw [if_pos hi, hk]
 cases h : bl i <;> rw [h] at hd <;> first | cases hd | rfl
theorem RB {ks : List (Option Nat)} {bl : Nat → OB} {nb i : Nat} (h : ZU ks bl ρ nb i ≠ .dead) (h2 : ZU ks bl ρ nb i ≠ .none) (h3 : ∀ sz, ZU ks bl ρ nb i ≠ .nila sz) :
  ∃ k, ks[i]? = some (some k) ∧ ZU ks bl ρ nb i = ρ k := by
 by_cases hi : i < nb
 ·rcases hk : ks[i]? with _ | (_ | k)
  ·cases hb : bl i with
   | dead => exact absurd (by simp only [ZU, if_pos hi, hb]) h
   | box => exact absurd (by simp only [ZU, if_pos hi, hb, hk]) h
   | lrec => exact absurd (by simp only [ZU, if_pos hi, hb, hk]) h
   | app => exact absurd (by simp only [ZU, if_pos hi, hb, hk]) h
   | rows t sz => exact absurd (by simp only [ZU, if_pos hi, hb, hk]) (h3 sz)
   | arr t sz => exact absurd (by simp only [ZU, if_pos hi, hb, hk]) (h3 sz)
  ·cases hb : bl i with
   | dead => exact absurd (by simp only [ZU, if_pos hi, hb]) h
   | box => exact absurd (by simp only [ZU, if_pos hi, hb, hk]) h
   | lrec => exact absurd (by simp only [ZU, if_pos hi, hb, hk]) h
   | app => exact absurd (by simp only [ZU, if_pos hi, hb, hk]) h
   | rows t sz => exact absurd (by simp only [ZU, if_pos hi, hb, hk]) (h3 sz)
   | arr t sz => exact absurd (by simp only [ZU, if_pos hi, hb, hk]) (h3 sz)
  ·cases hb : bl i with
   | dead => exact absurd (by simp only [ZU, if_pos hi, hb]) h
   | box => exact ⟨k, rfl, by simp only [ZU, if_pos hi, hb, hk]⟩
   | lrec => exact ⟨k, rfl, by simp only [ZU, if_pos hi, hb, hk]⟩
   | app => exact ⟨k, rfl, by simp only [ZU, if_pos hi, hb, hk]⟩
   | rows => exact ⟨k, rfl, by simp only [ZU, if_pos hi, hb, hk]⟩
   | arr t sz => exact ⟨k, rfl, by simp only [ZU, if_pos hi, hb, hk]⟩
 ·exact absurd (if_neg hi) h2
theorem pW (vars : List (Nat × AV)) (t : Nat) : lk vars t = .junk ∨ (t, lk vars t) ∈ vars := by
 induction vars with
 | nil => exact .inl rfl
 | cons p vs ih =>
  obtain ⟨t', x⟩ := p
  simp only [lk]
  cases hb : Nat.beq t' t with
  | true =>
   have := Nat.eq_of_beq_eq_true hb
   subst this
   exact .inr List.mem_cons_self
  | false =>
   rcases ih with h | h
   ·exact .inl h
   ·exact .inr (List.mem_cons_of_mem _ h)
theorem yD {σ : zw} {a : Act} {vars : List (Nat × AV)} {bl : Nat → OB} {nb : Nat} {n : Nat} {more : Prop} (h : Xt n E.G.nb0 σ vars bl nb more) (hst : St E σ a w) : more ∧ St E (x6 n nb vars bl) a w := by
 rw [Xt, wZ, rj] at h
 split at h
 ·rename_i hc
  simp only [Bool.and_eq_true] at hc
  obtain ⟨⟨hnn, hnb0, hkeep⟩, hdis, hinb⟩ := hc
  have hnn := Nat.eq_of_beq_eq_true hnn
  subst hnn
  obtain ⟨⟨hmore, hv⟩, hb⟩ := h
  refine ⟨hmore, ?_⟩
  obtain ⟨S, ρ, hM, hF, hD⟩ := hst
  have hlen := uV σ vars bl nb
  generalize TR σ vars bl nb = ks at *
  have lt_of : ∀ {i : Nat} {o : Option Nat}, ks[i]? = some o → i < nb := fun h => by rw [← hlen]; exact (List.getElem?_eq_some_iff.1 h).1
  have hi : ∀ k i, UW ks 0 k = some i → ZU ks bl ρ nb i = ρ k ∨ ZU ks bl ρ nb i = .dead := fun k i e => by
   have := (Sy e).2
   exact rt (lt_of this) (by simpa using this)
  have hn : ∀ i, ks[i]? = some none → ∃ sz, ZU ks bl ρ nb i = .nila sz ∨ ZU ks bl ρ nb i = .dead := fun i e => by
   unfold ZU
   rw [if_pos (lt_of e), e]
   cases bl i with
   | dead => exact ⟨0, .inr rfl⟩
   | box => exact ⟨0, .inr rfl⟩
   | lrec => exact ⟨0, .inr rfl⟩
   | app => exact ⟨0, .inr rfl⟩
   | rows t sz => exact ⟨sz, .inl rfl⟩
   | arr t sz => exact ⟨sz, .inl rfl⟩
  have hblk : ∀ i g, (ZU ks bl ρ nb i).has g → ∃ k, ks[i]? = some (some k) ∧ ZU ks bl ρ nb i = ρ k := fun i g e =>
   RB (fun h => by rw [h] at e; exact e.elim) (fun h => by rw [h] at e; exact e.elim) fun sz h => by rw [h] at e; exact e.elim
  refine ⟨S, ZU ks bl ρ nb, ⟨hM.fr, hM.sb, hM.sup, hM.sub, hM.glob, fun k hk => if_neg (Nat.not_lt.2 hk), fun i hlt => ?_, fun i g e => ?_, fun i j g e1 e2 => ?_, fun i g base cap sz L e => ?_, Nat.le_of_ble_eq_true hnb0, fun i hi0 => ?_⟩, ⟨hF.1, fun t _ => ?_⟩, hD⟩
  ·change i < nb at hlt
   have hob := Y5 hb i hlt
   show Wv w S _ (bl i) _
   cases hbi : bl i with
   | dead =>
    have : ZU ks bl ρ nb i = .dead := by unfold ZU; rw [if_pos hlt, hbi]
    rw [this]; trivial
   | box t n cells =>
    split at hob
    ·rename_i k hk
     rw [xE hlt hk (by rw [hbi]; rfl)]
     have hok := hM.ok k (xh hinb k (List.mem_of_getElem? hk))
     rw [hbi] at hob
     cases hσ : σ.bl k with
     | box t' n' cells' =>
      rw [hσ] at hob hok
      obtain ⟨rfl, rfl, h3⟩ := hob
      cases ho : ρ k with
      | box g =>
       rw [ho] at hok
       obtain ⟨c, c1, c2, c3⟩ := hok
       exact ⟨c, c1, c2, fun j hj => ⟨ux hi hn (c3 j hj).1 (Y5 h3 j hj), (c3 j hj).2⟩⟩
      | _ => rw [ho] at hok; exact hok.elim
     | _ => rw [hσ] at hob; exact hob.elim
    ·rw [hbi] at hob; exact hob.elim
   | lrec st pend =>
    split at hob
    ·rename_i k hk
     rw [xE hlt hk (by rw [hbi]; rfl)]
     have hok := hM.ok k (xh hinb k (List.mem_of_getElem? hk))
     rw [hbi] at hob
     cases hσ : σ.bl k with
     | lrec st' pend' =>
      rw [hσ] at hob hok
      obtain ⟨rfl, rfl⟩ := hob
      cases ho : ρ k with
      | lrec g r => rw [ho] at hok; exact hok
      | _ => rw [ho] at hok; exact hok.elim
     | _ => rw [hσ] at hob; exact hob.elim
    ·rw [hbi] at hob; exact hob.elim
   | arr t sz len els =>
    split at hob
    ·rename_i k hk
     rw [xE hlt hk (by rw [hbi]; rfl)]
     have hok := hM.ok k (xh hinb k (List.mem_of_getElem? hk))
     rw [hbi] at hob
     cases hσ : σ.bl k with
     | arr t' sz' len' els' =>
      rw [hσ] at hob hok
      obtain ⟨rfl, rfl, rfl, h3⟩ := hob
      cases ho : ρ k with
      | arr g base cap sz2 L =>
       rw [ho] at hok
       obtain ⟨e1, e2, c1, c2, c, c3, c4, c5⟩ := hok
       exact ⟨e1, e2, c1, c2, c, c3, c4, fun i j hi hj => ⟨yt (c5 i j hi hj).1 (h3 i j hi hj), (c5 i j hi hj).2⟩⟩
      | nila sz2 => rw [ho] at hok; exact hok
      | _ => rw [ho] at hok; exact hok.elim
     | _ => rw [hσ] at hob; exact hob.elim
    ·rename_i hno
     rw [hbi] at hob
     have : ZU ks bl ρ nb i = .nila sz := by
      rcases hk : ks[i]? with _ | (_ | k)
      ·simp only [ZU, if_pos hlt, hbi, hk]
      ·simp only [ZU, if_pos hlt, hbi, hk]
      ·exact absurd hk (hno k)
     rw [this]
     exact ⟨rfl, hob⟩
   | app te ssz len els =>
    split at hob
    ·rename_i k hk
     rw [xE hlt hk (by rw [hbi]; rfl)]
     have hok := hM.ok k (xh hinb k (List.mem_of_getElem? hk))
     rw [hbi] at hob
     cases hσ : σ.bl k with
     | app te' ssz' len' els' =>
      rw [hσ] at hob hok
      obtain ⟨rfl, rfl, rfl, h3⟩ := hob
      cases ho : ρ k with
      | app q v => rw [ho] at hok; exact zA.told (o := q) hok ⟨rfl, rfl, h3⟩
      | _ => rw [ho] at hok; exact hok.elim
     | _ => rw [hσ] at hob; exact hob.elim
    ·rw [hbi] at hob; exact hob.elim
   | rows t sz len col te ssz els out =>
    split at hob
    ·rename_i k hk
     rw [xE hlt hk (by rw [hbi]; rfl)]
     have hok := hM.ok k (xh hinb k (List.mem_of_getElem? hk))
     rw [hbi] at hob
     cases hσ : σ.bl k with
     | rows t' sz' len' col' te' ssz' els' out' =>
      rw [hσ] at hob hok
      obtain ⟨⟨⟨rfl, rfl, rfl⟩, rfl, rfl, rfl⟩, hout, h3, h4⟩ := hob
      cases ho : ρ k with
      | rows g cap sz2 L sub =>
       rw [ho] at hok
       obtain ⟨e1, e2, c1, c2, c3, c4, c5, c6, c, c7, c8, c9⟩ := hok
       refine ⟨e1, e2, c1, c2, c3, c4, c5, c6, c, c7, c8, fun i hi2 => ?_⟩
       obtain ⟨q1, q2, q3⟩ := c9 i hi2
       refine ⟨q1, ?_, fun j hj hne => ⟨yt (q3 j hj hne).1 (h4 i j hi2 hj hne), (q3 j hj hne).2⟩⟩
       cases out' with
       | none =>
        cases out with
        | none => exact zA.told q2 (h3 i hi2)
        | some p => exact hout.elim
       | some p' =>
        cases out with
        | none => exact hout.elim
        | some p =>
         obtain ⟨e, hy⟩ := hout
         refine ⟨fun ei => ?_, fun ei => (q2.2 (by rw [← e]; exact ei)).told (h3 i hi2)⟩
         have := q2.1 (by rw [← e]; exact ei)
         exact ⟨this.1, ux hi hn this.2 hy⟩
      | nila sz2 =>
       rw [ho] at hok
       obtain ⟨e1, e2, e3⟩ := hok
       subst e3
       cases out with
       | none => exact ⟨e1, e2, rfl⟩
       | some p => exact hout.elim
      | _ => rw [ho] at hok; exact hok.elim
     | _ => rw [hσ] at hob; exact hob.elim
    ·rename_i hno
     rw [hbi] at hob
     have : ZU ks bl ρ nb i = .nila sz := by
      rcases hk : ks[i]? with _ | (_ | k)
      ·simp only [ZU, if_pos hlt, hbi, hk]
      ·simp only [ZU, if_pos hlt, hbi, hk]
      ·exact absurd hk (hno k)
     rw [this]
     exact ⟨rfl, hob.1, hob.2⟩
  ·obtain ⟨k, h1, h2⟩ := hblk i g e
   rw [h2] at e
   exact hM.own k g e
  ·obtain ⟨k, h1, h2⟩ := hblk i g e1
   obtain ⟨k', h3, h4⟩ := hblk j g e2
   rw [h2] at e1
   rw [h4] at e2
   have := hM.dis k k' g e1 e2
   subst this
   exact vI hdis i j k h1 h3
  ·obtain ⟨k, h1, h2⟩ := hblk i g (by rw [e]; rfl)
   rw [h2] at e
   exact hM.b0 k g base cap sz L e
  ·have h1 := List.all_eq_true.1 hkeep i (List.mem_range.2 hi0)
   have hlt : i < nb := Nat.lt_of_lt_of_le hi0 (Nat.le_of_ble_eq_true hnb0)
   simp only [Bool.or_eq_true] at h1
   show (E.r0 i).like (ZU ks bl ρ nb i) ∨ ZU ks bl ρ nb i = _
   rcases h1 with h1 | h1
   ·right
    cases hb : bl i with
    | dead => simp only [ZU, if_pos hlt, hb]
    | _ => rw [hb] at h1; cases h1
   ·split at h1
    ·rename_i k hk
     have := Nat.eq_of_beq_eq_true h1
     subst this
     rcases rt (ρ := ρ) (bl := bl) hlt hk with e | e
     ·rw [e]; exact hM.ole _ hi0
     ·exact .inr e
    ·cases h1
  ·show zr w S _ (lk vars t) _
   rcases pW vars t with e | e
   ·rw [e]; exact .junk _
   ·exact ux hi hn (hF.ev (.tmp t)) (Ro hv _ e)
 ·exact h.elim
end
end Go.Sx

namespace Go.Sx
open Go Go.RowKit
theorem Vt {a : Own} (h : Own.dead.like a) : a = .dead := Own.like_eq h (by simp)
theorem sY {a : Own} (h : a.like .none) : a = .none := Own.like_eq (Own.like_symm h) (by simp)
theorem wq {a b c : Own} (h1 : a.like b ∨ b = .dead) (h2 : b.like c) : a.like c ∨ c = .dead := by
 rcases h1 with e | e
 ·exact .inl (Own.like_trans e h2)
 ·rw [e] at h2; exact .inr (Vt h2)
section
variable {E : Env} {nb : Nat} {bl : Nat → OB} {S : Nat → Prop} {ρ : Nat → Own} {w : World}
theorem zI.reown (h : zI E nb bl S ρ w) {nb' : Nat} {bl' : Nat → OB} {ρ' : Nat → Own} (hnb : nb ≤ nb') (hhi : ∀ k, nb' ≤ k → ρ' k = .none) (hok : ∀ k, k < nb' → Wv w S ρ' (bl' k) (ρ' k))
  (hown : ∀ k g, (ρ' k).has g → ∃ j, (ρ j).has g) (hdis : ∀ k k' g, (ρ' k).has g → (ρ' k').has g → k = k') (hb0 : ∀ k g base cap sz L, ρ' k = .arr g base cap sz L → base = 0)
  (hle : ∀ k, k < nb → (ρ k).like (ρ' k) ∨ ρ' k = .dead) : zI E nb' bl' S ρ' w ∧ zX ρ ρ' := by
 refine ⟨⟨h.fr, h.sb, h.sup, h.sub, h.glob, hhi, hok, fun k g e => ?_, hdis, hb0, Nat.le_trans h.nbz hnb, fun k hk => ?_⟩, fun k => ?_⟩
 ·obtain ⟨j, hj⟩ := hown k g e
  exact h.own j g hj
 ·rcases hle k (Nat.lt_of_lt_of_le hk h.nbz) with e | e
  ·exact wq (h.ole k hk) e
  ·exact .inr e
 ·by_cases hk : k < nb
  ·rcases hle k hk with e | e
   ·exact .inl e
   ·exact .inr (.inl e)
  ·exact .inr (.inr (h.hi k (Nat.not_lt.1 hk)))
theorem zA.slice {te : TypeId} {ssz s n : Nat} {el : Nat → Nat → AV} {v : Value} {o : Option Nat} (h : zA w S te ssz (.xl false s n el) v o) : ∃ a c, v = .slice a n c := by
 cases o with
 | none =>
  obtain ⟨n', el', h1, h2⟩ := h
  cases h1
  cases h2
  exact ⟨_, _, rfl⟩
 | some g =>
  obtain ⟨n', el', cap, c, h1, h2, _⟩ := h
  cases h1
  exact ⟨_, _, h2⟩
theorem zA.empty {te : TypeId} {ssz : Nat} {el : Nat → Nat → AV} (a : Option Addr) : zA w S te ssz (.xl false ssz 0 el) (.slice a 0 0) none :=
 ⟨0, el, rfl, .xl a 0 (fun _ _ => undef) (Nat.le_refl _) (Nat.zero_le _) (fun _ => rfl) (fun i j hi => absurd hi (Nat.not_lt_zero _)) fun i j hi => absurd hi (Nat.not_lt_zero _)⟩
def V9 (σ : zw) (k i : Nat) : Option (List zS × zw) :=
 match σ.bl k with
 | .rows t sz len col te ssz els none =>
  match els i col with
  | .xl false s n el =>
   if s = ssz ∧ k < σ.nb then
    some ([.d (i < len)], { σ with nb := σ.nb + 1, bl := upd (upd σ.bl k (.rows t sz len col te ssz els (some (i, .ns σ.nb 0 n)))) σ.nb (.app te ssz n el) })
   else none
  | _ => none
 | _ => none
theorem vK {σ σ' : zw} {a : Act} {k i : Nat} {ps : List zS} (h : V9 σ k i = some (ps, σ')) (hp : ∀ p ∈ ps, p.holds) (hst : St E σ a w) : St E σ' a w := by
 obtain ⟨S, ρ, hM, hF, hD⟩ := hst
 unfold V9 at h
 split at h
 ·rename_i t sz len col te ssz els hbl
  split at h
  ·rename_i s n el hel
   split at h
   ·rename_i hc
    obtain ⟨rfl, hk⟩ := hc
    cases h
    have hi : i < len := cd (hp _ (List.mem_singleton.2 rfl))
    have hok := hM.ok k hk
    rw [hbl] at hok
    have hne : k ≠ σ.nb := Nat.ne_of_lt hk
    cases hρ : ρ k with
    | rows g cap sz' L sub =>
     rw [hρ] at hok
     obtain ⟨rfl, rfl, h1, h2, h3, h4, h5, h6, c, h7, h8, h9⟩ := hok
     obtain ⟨a1, a2, a3⟩ := h9 i hi
     change zA w S te s (els i col) _ (sub i) at a2
     rw [hel] at a2
     obtain ⟨sa, sc, hv⟩ := a2.slice
     let sub' : Nat → Option Nat := fun i' => if i' = i then none else sub i'
     have hsub : ∀ {i' b}, sub' i' = some b → i' ≠ i ∧ sub i' = some b := fun {i' b} e => by
      by_cases e' : i' = i
      ·simp only [sub', if_pos e'] at e; cases e
      ·simp only [sub', if_neg e'] at e; exact ⟨e', e⟩
     let ρ' : Nat → Own := upd (upd ρ k (.rows g cap sz' L sub')) σ.nb (.app (sub i) (.slice sa n sc))
     have ek : ρ' k = .rows g cap sz' L sub' := by simp only [ρ']; rw [zx _ _ hne, upd_same]
     have en : ρ' σ.nb = .app (sub i) (.slice sa n sc) := upd_same _ _ _
     have eo : ∀ j, j ≠ k → j ≠ σ.nb → ρ' j = ρ j := fun j q1 q2 => by simp only [ρ']; rw [zx _ _ q2, zx _ _ q1]
     have like : ∀ j, j < σ.nb → (ρ j).like (ρ' j) := fun j hj => by
      by_cases e : j = k
      ·subst e; rw [hρ, ek]; exact ⟨rfl, rfl, rfl, rfl⟩
      ·rw [eo j e (Nat.ne_of_lt hj)]; exact Own.like_refl _
     have hle : zX ρ ρ' := fun j => by
      by_cases hj : j < σ.nb
      ·exact .inl (like j hj)
      ·exact .inr (.inr (hM.hi j (Nat.not_lt.1 hj)))
     have from_ : ∀ j b, (ρ' j).has b → (j = σ.nb ∧ sub i = some b) ∨ (j = k ∧ (b = g ∨ ∃ i', i' ≠ i ∧ sub i' = some b)) ∨ (j ≠ k ∧ j ≠ σ.nb ∧ (ρ j).has b) := fun j b hb => by
      by_cases e1 : j = σ.nb
      ·subst e1; rw [en] at hb; exact .inl ⟨rfl, hb⟩
      ·by_cases e2 : j = k
       ·subst e2; rw [ek] at hb
        refine .inr (.inl ⟨rfl, ?_⟩)
        rcases hb with hb | ⟨i', hb⟩
        ·exact .inl hb.symm
        ·exact .inr ⟨i', (hsub hb).1, (hsub hb).2⟩
       ·rw [eo j e2 e1] at hb; exact .inr (.inr ⟨e2, e1, hb⟩)
     have hk' : ∀ b, sub i = some b → (ρ k).has b := fun b e => by rw [hρ]; exact .inr ⟨i, e⟩
     have hg' : (ρ k).has g := by rw [hρ]; exact .inl rfl
     have hs' : ∀ i' b, sub i' = some b → (ρ k).has b := fun i' b e => by rw [hρ]; exact .inr ⟨i', e⟩
     obtain ⟨m1, m2⟩ := hM.reown (nb' := σ.nb + 1) (ρ' := ρ') (bl' := upd (upd σ.bl k (.rows t sz' L col te s els (some (i, .ns σ.nb 0 n)))) σ.nb (.app te s n el)) (Nat.le_succ _)
      (fun j hj => by rw [eo j (by omega) (by omega)]; exact hM.hi j (by omega))
      (fun j hj => by
       by_cases e1 : j = σ.nb
       ·subst e1; rw [upd_same, en]; rw [hv] at a2; exact a2
       ·rw [zx _ _ e1]
        by_cases e2 : j = k
        ·subst e2
         rw [upd_same, ek]
         refine ⟨rfl, rfl, h1, h2, h3, fun i' hi' => ?_, fun i' e => h5 i' (hsub e).2, fun i1 i2 b q1 q2 => h6 i1 i2 b (hsub q1).2 (hsub q2).2, c, h7, h8, fun i' hi' => ?_⟩
         ·simp only [sub']; split
          ·rfl
          ·exact h4 i' hi'
         ·obtain ⟨b1, b2, b3⟩ := h9 i' hi'
          refine ⟨b1, ⟨fun e => ?_, fun e => ?_⟩, b3⟩
          ·subst e
           refine ⟨by simp only [sub', if_true], ?_⟩
           rw [hv]
           exact .nsv (sub i') sa sc en
          ·simp only [sub', if_neg e]; exact b2
        ·rw [zx _ _ e2, eo j e2 e1]
         exact (hM.ok j (by omega)).mono (fun b hb => ⟨hb, rfl⟩) hle fun _ _ => rfl)
      (fun j b hb => by
       rcases from_ j b hb with ⟨_, e⟩ | ⟨_, e | ⟨i', _, e⟩⟩ | ⟨_, _, e⟩
       ·exact ⟨k, hk' b e⟩
       ·exact ⟨k, e ▸ hg'⟩
       ·exact ⟨k, hs' i' b e⟩
       ·exact ⟨j, e⟩)
      (fun j j' b hb hb' => by
       rcases from_ j b hb with ⟨q1, e1⟩ | ⟨q1, e1⟩ | ⟨q1, q1', e1⟩ <;> rcases from_ j' b hb' with ⟨q2, e2⟩ | ⟨q2, e2⟩ | ⟨q2, q2', e2⟩
       ·omega
       ·rcases e2 with e2 | ⟨i', e3, e2⟩
        ·exact absurd (e2 ▸ e1) (h5 i)
        ·exact absurd (h6 i' i b e2 e1) e3
       ·exact absurd (hM.dis k j' b (hk' b e1) e2).symm q2
       ·rcases e1 with e1 | ⟨i', e3, e1⟩
        ·exact absurd (e1 ▸ e2) (h5 i)
        ·exact absurd (h6 i' i b e1 e2) e3
       ·omega
       ·have : (ρ k).has b := by
         rcases e1 with e1 | ⟨i', _, e1⟩
         ·exact e1 ▸ hg'
         ·exact hs' i' b e1
        exact absurd (hM.dis k j' b this e2).symm q2
       ·exact absurd (hM.dis k j b (hk' b e2) e1).symm q1
       ·have : (ρ k).has b := by
         rcases e2 with e2 | ⟨i', _, e2⟩
         ·exact e2 ▸ hg'
         ·exact hs' i' b e2
        exact absurd (hM.dis k j b this e1).symm q1
       ·exact hM.dis j j' b e1 e2)
      (fun j g' base cap' sz2 L' e => by
       by_cases e1 : j = σ.nb
       ·subst e1; rw [en] at e; cases e
       ·by_cases e2 : j = k
        ·subst e2; rw [ek] at e; cases e
        ·rw [eo j e2 e1] at e; exact hM.b0 _ _ _ _ _ _ e)
      (fun j hj => .inl (like j hj))
     exact ⟨S, ρ', m1, hF.mono (fun b hb => ⟨hb, rfl⟩) m2, hD⟩
    | nila sz' =>
     rw [hρ] at hok
     have : len = 0 := hok.2.1
     omega
    | _ => rw [hρ] at hok; exact hok.elim
   ·cases h
  ·cases h
 ·cases h
def VB (σ : zw) (k : Nat) : Option (List zS × zw) :=
 match σ.bl k with
 | .rows t sz len col te ssz els (some (i0, .ns q 0 n)) =>
  match σ.bl q with
  | .app te' s n' el =>
   if te' = te ∧ s = ssz ∧ k < σ.nb ∧ q < σ.nb ∧ Nat.beq k q = false then
    some ([.d (n' = n), .d (i0 < len), .p (sd (.xl false ssz n el) (els i0 col))], { σ with bl := upd (upd σ.bl k (.rows t sz len col te ssz els none)) q .dead })
   else none
  | .arr te' s n' el =>
   if te' = te ∧ s = ssz ∧ k < σ.nb ∧ q < σ.nb ∧ Nat.beq k q = false then
    some ([.d (n' = n), .d (i0 < len)], { σ with bl := upd (upd σ.bl k (.rows t sz len col te ssz (fun i j => if i = i0 ∧ j = col then .xl false ssz n el else els i j) none)) q .dead })
   else none
  | _ => none
 | .rows _ _ _ _ _ _ _ none => some ([], σ)
 | _ => none
theorem wG {t te : TypeId} {sz len col ssz i0 q n k : Nat} {els els2 : Nat → Nat → AV} (hM : zI E nb bl S ρ w) (hk : k < nb) (hq : q < nb) (hne : k ≠ q) (hbl : bl k = .rows t sz len col te ssz els (some (i0, .ns q 0 n)))
  (hi : i0 < len) (he : ∀ i j, ¬ (i = i0 ∧ j = col) → els2 i j = els i j) (key : ∀ v, zr w S ρ (.ns q 0 n) v → ∃ o, zA w S te ssz (els2 i0 col) v o ∧ ∀ b, o = some b → (ρ q).has b) :
  ∃ ρ', zI E nb (upd (upd bl k (.rows t sz len col te ssz els2 none)) q .dead) S ρ' w ∧ zX ρ ρ' := by
 have hok := hM.ok k hk
 rw [hbl] at hok
 cases hρ : ρ k with
 | rows g cap sz' L sub =>
  rw [hρ] at hok
  obtain ⟨rfl, rfl, h1, h2, h3, h4, h5, h6, c, h7, h8, h9⟩ := hok
  obtain ⟨a1, a2, a3⟩ := h9 i0 hi
  obtain ⟨s0, hrel⟩ := a2.1 rfl
  obtain ⟨o, r1, r2⟩ := key _ hrel
  let sub' : Nat → Option Nat := fun i' => if i' = i0 then o else sub i'
  have hsub : ∀ {i' b}, sub' i' = some b → (i' = i0 ∧ o = some b) ∨ (i' ≠ i0 ∧ sub i' = some b) := fun {i' b} e => by
   by_cases e' : i' = i0
   ·simp only [sub', if_pos e'] at e; exact .inl ⟨e', e⟩
   ·simp only [sub', if_neg e'] at e; exact .inr ⟨e', e⟩
  let ρ' : Nat → Own := upd (upd ρ k (.rows g cap sz' L sub')) q .dead
  have ek : ρ' k = .rows g cap sz' L sub' := by simp only [ρ']; rw [zx _ _ hne, upd_same]
  have en : ρ' q = .dead := upd_same _ _ _
  have eo : ∀ j, j ≠ k → j ≠ q → ρ' j = ρ j := fun j q1 q2 => by simp only [ρ']; rw [zx _ _ q2, zx _ _ q1]
  have like : ∀ j, j < nb → (ρ j).like (ρ' j) ∨ ρ' j = .dead := fun j hj => by
   by_cases e1 : j = q
   ·subst e1; exact .inr en
   ·by_cases e : j = k
    ·subst e; rw [hρ, ek]; exact .inl ⟨rfl, rfl, rfl, rfl⟩
    ·rw [eo j e e1]; exact .inl (Own.like_refl _)
  have hle : zX ρ ρ' := fun j => by
   by_cases hj : j < nb
   ·rcases like j hj with e | e
    ·exact .inl e
    ·exact .inr (.inl e)
   ·exact .inr (.inr (hM.hi j (Nat.not_lt.1 hj)))
  have hg' : (ρ k).has g := by rw [hρ]; exact .inl rfl
  have hs' : ∀ i' b, sub i' = some b → (ρ k).has b := fun i' b e => by rw [hρ]; exact .inr ⟨i', e⟩
  have from_ : ∀ j b, (ρ' j).has b → (j = k ∧ ((ρ k).has b ∨ (ρ q).has b)) ∨ (j ≠ k ∧ j ≠ q ∧ (ρ j).has b) := fun j b hb => by
   by_cases e1 : j = q
   ·subst e1; rw [en] at hb; exact hb.elim
   ·by_cases e2 : j = k
    ·subst e2; rw [ek] at hb
     refine .inl ⟨rfl, ?_⟩
     rcases hb with hb | ⟨i', hb⟩
     ·exact .inl (hb ▸ hg')
     ·rcases hsub hb with ⟨_, e⟩ | ⟨_, e⟩
      ·exact .inr (r2 b e)
      ·exact .inl (hs' i' b e)
    ·rw [eo j e2 e1] at hb; exact .inr ⟨e2, e1, hb⟩
  obtain ⟨m1, m2⟩ := hM.reown (nb' := nb) (ρ' := ρ') (bl' := upd (upd bl k (.rows t sz' L col te ssz els2 none)) q .dead) (Nat.le_refl _)
   (fun j hj => by rw [eo j (by omega) (by omega)]; exact hM.hi j (by omega))
   (fun j hj => by
    by_cases e1 : j = q
    ·subst e1; rw [upd_same, en]; trivial
    ·rw [zx _ _ e1]
     by_cases e2 : j = k
     ·subst e2
      rw [upd_same, ek]
      refine ⟨rfl, rfl, h1, h2, h3, fun i' hi' => ?_, fun i' e => ?_, fun i1 i2 b q1 q2 => ?_, c, h7, h8, fun i' hi' => ?_⟩
      ·simp only [sub']; split
       ·rename_i e; subst e; exact absurd hi (by omega)
       ·exact h4 i' hi'
      ·rcases hsub e with ⟨_, e⟩ | ⟨_, e⟩
       ·exact hne (hM.dis j q g hg' (r2 g e))
       ·exact h5 i' e
      ·rcases hsub q1 with ⟨e3, e1⟩ | ⟨e3, e1⟩ <;> rcases hsub q2 with ⟨e4, e2⟩ | ⟨e4, e2⟩
       ·omega
       ·exact absurd (hM.dis j q b (hs' i2 b e2) (r2 b e1)) hne
       ·exact absurd (hM.dis j q b (hs' i1 b e1) (r2 b e2)) hne
       ·exact h6 i1 i2 b e1 e2
      ·obtain ⟨b1, b2, b3⟩ := h9 i' hi'
       refine ⟨b1, ?_, fun j' hj' hne' => ?_⟩
       ·show zA w S te ssz (els2 i' col) _ (sub' i')
        by_cases e : i' = i0
        ·subst e; simp only [sub', if_true]; exact r1
        ·rw [he i' col fun h => e h.1]; simp only [sub', if_neg e]; exact b2.2 e
       ·rw [he i' j' fun h => hne' h.2]; exact b3 j' hj' hne'
     ·rw [zx _ _ e2, eo j e2 e1]
      exact (hM.ok j (by omega)).mono (fun b hb => ⟨hb, rfl⟩) hle fun _ _ => rfl)
   (fun j b hb => by
    rcases from_ j b hb with ⟨_, e | e⟩ | ⟨_, _, e⟩
    ·exact ⟨k, e⟩
    ·exact ⟨q, e⟩
    ·exact ⟨j, e⟩)
   (fun j j' b hb hb' => by
    rcases from_ j b hb with ⟨q1, e1⟩ | ⟨q1, q1', e1⟩ <;> rcases from_ j' b hb' with ⟨q2, e2⟩ | ⟨q2, q2', e2⟩
    ·omega
    ·rcases e1 with e1 | e1
     ·exact absurd (hM.dis k j' b e1 e2).symm q2
     ·exact absurd (hM.dis q j' b e1 e2).symm q2'
    ·rcases e2 with e2 | e2
     ·exact absurd (hM.dis k j b e2 e1).symm q1
     ·exact absurd (hM.dis q j b e2 e1).symm q1'
    ·exact hM.dis j j' b e1 e2)
   (fun j g' base cap' sz2 L' e => by
    by_cases e1 : j = q
    ·subst e1; rw [en] at e; cases e
    ·by_cases e2 : j = k
     ·subst e2; rw [ek] at e; cases e
     ·rw [eo j e2 e1] at e; exact hM.b0 _ _ _ _ _ _ e)
   like
  exact ⟨ρ', m1, m2⟩
 | nila sz' =>
  rw [hρ] at hok
  have : len = 0 := hok.2.1
  omega
 | _ => rw [hρ] at hok; exact hok.elim
theorem vM {σ σ' : zw} {a : Act} {k : Nat} {ps : List zS} (h : VB σ k = some (ps, σ')) (hp : ∀ p ∈ ps, p.holds) (hst : St E σ a w) : St E σ' a w := by
 obtain ⟨S, ρ, hM, hF, hD⟩ := hst
 unfold VB at h
 split at h
 ·rename_i t sz len col te ssz els i0 q n hbl
  split at h
  ·rename_i te' s n' el hq
   split at h
   ·rename_i hc
    obtain ⟨rfl, rfl, hk, hqn, hne⟩ := hc
    cases h
    have hn : n' = n := cd (hp (.d (n' = n)) (by simp))
    have hi : i0 < len := cd (hp (.d (i0 < len)) (by simp))
    have hr : sd (.xl false s n el) (els i0 col) := hp (.p (sd (.xl false s n el) (els i0 col))) (by simp)
    subst hn
    obtain ⟨ρ', m1, m2⟩ := wG (els2 := els) hM hk hqn (fun e => by subst e; rw [Nat.beq_refl] at hne; cases hne) hbl hi (fun _ _ _ => rfl) fun v hv => by
     have hbq := hM.ok q hqn
     rw [hq] at hbq
     have no : ∀ {o}, ρ q = o → Wv w S ρ (.app te' s n' el) o := fun e => e ▸ hbq
     cases hv with
     | ns g base cap sz' L h => exact (no h).elim
     | ns0 g base cap sz' L A h => exact (no h).elim
     | nsn sz' o h => exact (no h).elim
     | nsr g cap sz' L sub h => exact (no h).elim
     | dns h => exact (no h).elim
     | nsv o a cap h =>
      have := no h
      exact ⟨o, zA.told (o := o) this hr, fun b e => by rw [h]; exact e⟩
    exact ⟨S, ρ', m1, hF.mono (fun b hb => ⟨hb, rfl⟩) m2, hD⟩
   ·cases h
  ·rename_i te' s n' el hq
   split at h
   ·rename_i hc
    obtain ⟨rfl, rfl, hk, hqn, hne⟩ := hc
    cases h
    have hn : n' = n := cd (hp _ (by simp))
    have hi : i0 < len := cd (hp _ (by simp))
    subst hn
    obtain ⟨ρ', m1, m2⟩ := wG (els2 := fun i j => if i = i0 ∧ j = col then .xl false s n' el else els i j) hM hk hqn (fun e => by subst e; rw [Nat.beq_refl] at hne; cases hne) hbl hi (fun i j h => if_neg h) fun v hv => by
     rw [if_pos ⟨rfl, rfl⟩]
     have hbq := hM.ok q hqn
     rw [hq] at hbq
     have no : ∀ {o}, ρ q = o → Wv w S ρ (.arr te' s n' el) o := fun e => e ▸ hbq
     cases hv with
     | ns g base cap sz' L h hl hcap =>
      have := no h
      have hb0 := hM.b0 _ _ _ _ _ _ h
      subst hb0
      obtain ⟨rfl, rfl, h1, h2, c, h3, h4, h5⟩ := this
      refine ⟨some g, ⟨L, el, cap, c, rfl, by simp, h3, by simpa using h4, h1, h2, fun i j hi hj => ?_⟩, fun b e => by rw [h]; cases e; rfl⟩
      have := h5 i j hi hj
      rwa [Nat.zero_add] at this
     | ns0 g base cap sz' L A h => exact ⟨none, .empty _, fun b e => by cases e⟩
     | nsn sz' o h => exact ⟨none, .empty _, fun b e => by cases e⟩
     | nsr g cap sz' L sub h => exact (no h).elim
     | dns h => exact (no h).elim
     | nsv o a cap h => exact (no h).elim
    exact ⟨S, ρ', m1, hF.mono (fun b hb => ⟨hb, rfl⟩) m2, hD⟩
   ·cases h
  ·cases h
 ·cases h; exact ⟨S, ρ, hM, hF, hD⟩
 ·cases h
inductive vB where
 | out (k i : Nat)
 | back (k : Nat)
 | none
def Tj (σ : zw) : vB → Option (List zS × zw)
 | .out k i => V9 σ k i
 | .back k => VB σ k
 | .none => some ([], σ)
theorem vh {σ σ' : zw} {a : Act} {o : vB} {ps : List zS} (h : Tj σ o = some (ps, σ')) (hp : ∀ p ∈ ps, p.holds) (hst : St E σ a w) : St E σ' a w := by
 cases o with
 | out k i => exact vK h hp hst
 | back k => exact vM h hp hst
 | none => cases h; exact hst
def vU : List vB → zw → (zw → Prop) → Prop
 | [], σ, k => k σ
 | o :: os, σ, k =>
  match Tj σ o with
  | some (ps, σ') => Zl ps (vU os σ' k)
  | .none => zb σ
theorem WB {k k' : zw → Prop} (h : ∀ σ, k σ → k' σ) : ∀ (os : List vB) {σ : zw}, vU os σ k → vU os σ k'
 | [], _, hv => h _ hv
 | o :: os, σ, hv => by
  unfold vU at hv ⊢
  split at hv
  ·rw [zk] at hv ⊢
   exact ⟨hv.1, WB h os hv.2⟩
  ·exact hv.elim
theorem wm {a : Act} {k : zw → Prop} : ∀ (os : List vB) {σ : zw}, vU os σ k → St E σ a w → ∃ σ', k σ' ∧ St E σ' a w
 | [], σ, hv, hst => ⟨σ, hv, hst⟩
 | o :: os, σ, hv, hst => by
  unfold vU at hv
  split at hv
  ·rename_i ps σ' hs
   rw [zk] at hv
   exact wm os hv.2 (vh hs hv.1 hst)
  ·exact hv.elim
end
end Go.Sx
