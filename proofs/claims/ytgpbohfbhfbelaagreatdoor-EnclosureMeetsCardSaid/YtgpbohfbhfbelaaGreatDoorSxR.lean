/- The verification condition of code. -/
import Derived.Test.YtgpbohfbhfbelaaGreatDoorSxP
set_option linter.unusedSimpArgs false
set_option linter.unusedVariables false
namespace Go.Sx
open Go Go.RowKit
section
variable {E : Env} {w : World} {S : Nat → Prop} {ρ : Nat → Own}
theorem mb {ks : List (Option Nat)} {bl : Nat → OB} {nb i k : Nat} (hi : i < nb) (hk : ks[i]? = some (some k)) : yh ks bl ρ nb i = ρ k ∨ yh ks bl ρ nb i = .dead := by
 unfold yh
 grind
theorem VT {ks : List (Option Nat)} {bl : Nat → OB} {nb i k : Nat} (hi : i < nb) (hk : ks[i]? = some (some k)) (hd : Ri (bl i) = false) : yh ks bl ρ nb i = ρ k := by
 unfold yh
 rw [if_pos hi, hk]
 cases h : bl i <;> rw [h] at hd <;> first | cases hd | rfl
theorem JV {ks : List (Option Nat)} {bl : Nat → OB} {nb i : Nat} (h : yh ks bl ρ nb i ≠ .dead) (h2 : yh ks bl ρ nb i ≠ .none) (h3 : ∀ sz, yh ks bl ρ nb i ≠ .nila sz) :
  ∃ k, ks[i]? = some (some k) ∧ yh ks bl ρ nb i = ρ k := by
 by_cases hi : i < nb
 ·rcases hk : ks[i]? with _ | (_ | k)
  ·cases hb : bl i with
   | dead => exact absurd (by simp only [yh, if_pos hi, hb]) h
   | box => exact absurd (by simp only [yh, if_pos hi, hb, hk]) h
   | lrec => exact absurd (by simp only [yh, if_pos hi, hb, hk]) h
   | mp => exact absurd (by simp only [yh, if_pos hi, hb, hk]) h
   | arr t sz => exact absurd (by simp only [yh, if_pos hi, hb, hk]) (h3 sz)
  ·cases hb : bl i with
   | dead => exact absurd (by simp only [yh, if_pos hi, hb]) h
   | box => exact absurd (by simp only [yh, if_pos hi, hb, hk]) h
   | lrec => exact absurd (by simp only [yh, if_pos hi, hb, hk]) h
   | mp => exact absurd (by simp only [yh, if_pos hi, hb, hk]) h
   | arr t sz => exact absurd (by simp only [yh, if_pos hi, hb, hk]) (h3 sz)
  ·cases hb : bl i with
   | dead => exact absurd (by simp only [yh, if_pos hi, hb]) h
   | box => exact ⟨k, rfl, by simp only [yh, if_pos hi, hb, hk]⟩
   | lrec => exact ⟨k, rfl, by simp only [yh, if_pos hi, hb, hk]⟩
   | mp => exact ⟨k, rfl, by simp only [yh, if_pos hi, hb, hk]⟩
   | arr t sz => exact ⟨k, rfl, by simp only [yh, if_pos hi, hb, hk]⟩
 ·exact absurd (if_neg hi) h2
theorem ik (vars : List (Nat × AV)) (t : Nat) : lk vars t = .junk ∨ (t, lk vars t) ∈ vars := by
 induction vars with
 | nil => exact .inl rfl
 | cons p vs ih =>
  obtain ⟨t', x⟩ := p
  simp only [lk]
  cases hb : Nat.beq t' t with
  | true =>
   simp_all
  | false =>
   grind
theorem xM {σ : zo} {a : Act} {vars : List (Nat × AV)} {bl : Nat → OB} {nb : Nat} {n : Nat} {more : Prop} (h : vB n E.G.nb0 σ vars bl nb more) (hst : St E σ a w) : more ∧ St E (Wa n nb vars bl) a w := by
 rw [vB, uZ, N9] at h
 split at h
 ·rename_i hc
  simp only [Bool.and_eq_true] at hc
  obtain ⟨⟨hnn, hnb0, hkeep⟩, hdis, hinb⟩ := hc
  have hnn := Nat.eq_of_beq_eq_true hnn
  subst hnn
  obtain ⟨⟨hmore, hv⟩, hb⟩ := h
  refine ⟨hmore, ?_⟩
  obtain ⟨S, ρ, hM, hF, hD⟩ := hst
  have hlen := re σ vars bl nb
  generalize OO σ vars bl nb = ks at *
  have lt_of : ∀ {i : Nat} {o : Option Nat}, ks[i]? = some o → i < nb := fun h => by rw [← hlen]; exact (List.getElem?_eq_some_iff.1 h).1
  have hi : ∀ k i, Qz ks 0 k = some i → yh ks bl ρ nb i = ρ k ∨ yh ks bl ρ nb i = .dead := fun k i e => by
   have := (Nh e).2
   exact mb (lt_of this) (by simpa using this)
  have hn : ∀ i, ks[i]? = some none → ∃ sz, yh ks bl ρ nb i = .nila sz ∨ yh ks bl ρ nb i = .dead := fun i e => by
   unfold yh
   rw [if_pos (lt_of e), e]
   cases bl i with
   | dead => exact ⟨0, .inr rfl⟩
   | box => exact ⟨0, .inr rfl⟩
   | lrec => exact ⟨0, .inr rfl⟩
   | mp => exact ⟨0, .inr rfl⟩
   | arr t sz => exact ⟨sz, .inl rfl⟩
  have hblk : ∀ i g, (yh ks bl ρ nb i).has g → ∃ k, ks[i]? = some (some k) ∧ yh ks bl ρ nb i = ρ k := fun i g e =>
   JV (fun h => by rw [h] at e; exact e.elim) (fun h => by rw [h] at e; exact e.elim) fun sz h => by rw [h] at e; exact e.elim
  refine ⟨S, yh ks bl ρ nb, ⟨hM.fr, hM.sb, hM.sup, hM.sub, hM.glob, fun k hk => if_neg (Nat.not_lt.2 hk), fun i hlt => ?_, fun i g e => ?_, fun i j g e1 e2 => ?_, fun i g base cap sz L e => ?_, Nat.le_of_ble_eq_true hnb0, fun i hi0 => ?_⟩, ⟨hF.1, fun t _ => ?_⟩, hD⟩
  ·change i < nb at hlt
   have hob := wM hb i hlt
   show TF w S _ (bl i) _
   cases hbi : bl i with
   | dead =>
    have : yh ks bl ρ nb i = .dead := by unfold yh; rw [if_pos hlt, hbi]
    rw [this]; trivial
   | box t n cells =>
    split at hob
    ·rename_i k hk
     rw [VT hlt hk (by rw [hbi]; rfl)]
     have hok := hM.ok k (VS hinb k (List.mem_of_getElem? hk))
     rw [hbi] at hob
     cases hσ : σ.bl k with
     | box t' n' cells' =>
      rw [hσ] at hob hok
      obtain ⟨rfl, rfl, h3⟩ := hob
      cases ho : ρ k with
      | box g =>
       rw [ho] at hok
       obtain ⟨c, c1, c2, c3⟩ := hok
       exact ⟨c, c1, c2, fun j hj => ⟨Ro hi hn (c3 j hj).1 (wM h3 j hj), (c3 j hj).2⟩⟩
      | _ => rw [ho] at hok; exact hok.elim
     | _ => rw [hσ] at hob; exact hob.elim
    ·rw [hbi] at hob; exact hob.elim
   | mp k1 f =>
    split at hob
    ·rename_i k hk
     rw [VT hlt hk (by rw [hbi]; rfl)]
     have hok := hM.ok k (VS hinb k (List.mem_of_getElem? hk))
     rw [hbi] at hob
     cases hσ : σ.bl k with
     | mp k2 f' =>
      rw [hσ] at hob hok
      obtain ⟨rfl, hob⟩ := hob
      cases ho : ρ k with
      | mp g =>
       rw [ho] at hok
       obtain ⟨es, c1, c2, c3⟩ := hok
       exact ⟨es, c1, c2, fun a b => Ro hi hn (c3 a b) (hob a b)⟩
      | _ => rw [ho] at hok; exact hok.elim
     | _ => rw [hσ] at hob; exact hob.elim
    ·rw [hbi] at hob; exact hob.elim
   | lrec st pend =>
    split at hob
    ·rename_i k hk
     rw [VT hlt hk (by rw [hbi]; rfl)]
     have hok := hM.ok k (VS hinb k (List.mem_of_getElem? hk))
     rw [hbi] at hob
     cases hσ : σ.bl k with
     | lrec st' pend' =>
      rw [hσ] at hob hok
      obtain ⟨rfl, rfl⟩ := hob
      cases ho : ρ k with
      | lrec g r => rw [ho] at hok; exact hok
      | _ => rw [ho] at hok; exact hok.elim
     | _ => rw [hσ] at hob; exact hob.elim
    ·rw [hbi] at hob; exact hob.elim
   | arr t sz len els =>
    split at hob
    ·rename_i k hk
     rw [VT hlt hk (by rw [hbi]; rfl)]
     have hok := hM.ok k (VS hinb k (List.mem_of_getElem? hk))
     rw [hbi] at hob
     cases hσ : σ.bl k with
     | arr t' sz' len' els' =>
      rw [hσ] at hob hok
      obtain ⟨rfl, rfl, rfl, h3⟩ := hob
      cases ho : ρ k with
      | arr g base cap sz2 L =>
       rw [ho] at hok
       obtain ⟨e1, e2, c1, c2, c, c3, c4, c5⟩ := hok
       exact ⟨e1, e2, c1, c2, c, c3, c4, fun i j hi hj => ⟨wy (c5 i j hi hj).1 (h3 i j hi hj), (c5 i j hi hj).2⟩⟩
      | nila sz2 => rw [ho] at hok; exact hok
      | _ => rw [ho] at hok; exact hok.elim
     | _ => rw [hσ] at hob; exact hob.elim
    ·rename_i hno
     rw [hbi] at hob
     have : yh ks bl ρ nb i = .nila sz := by
      rcases hk : ks[i]? with _ | (_ | k)
      ·simp only [yh, if_pos hlt, hbi, hk]
      ·simp only [yh, if_pos hlt, hbi, hk]
      ·exact absurd hk (hno k)
     rw [this]
     exact ⟨rfl, hob⟩
  ·obtain ⟨k, h1, h2⟩ := hblk i g e
   rw [h2] at e
   exact hM.own k g e
  ·obtain ⟨k, h1, h2⟩ := hblk i g e1
   obtain ⟨k', h3, h4⟩ := hblk j g e2
   rw [h2] at e1
   rw [h4] at e2
   have := hM.dis k k' g e1 e2
   subst this
   exact T9 hdis i j k h1 h3
  ·obtain ⟨k, h1, h2⟩ := hblk i g (by rw [e]; rfl)
   rw [h2] at e
   exact hM.b0 k g base cap sz L e
  ·have h1 := List.all_eq_true.1 hkeep i (List.mem_range.2 hi0)
   have hlt : i < nb := Nat.lt_of_lt_of_le hi0 (Nat.le_of_ble_eq_true hnb0)
   simp only [Bool.or_eq_true] at h1
   show E.r0 i = yh ks bl ρ nb i ∨ yh ks bl ρ nb i = _
   rcases h1 with h1 | h1
   ·right
    cases hb : bl i with
    | dead => simp only [yh, if_pos hlt, hb]
    | _ => rw [hb] at h1; cases h1
   ·split at h1
    ·rename_i k hk
     have := Nat.eq_of_beq_eq_true h1
     subst this
     rcases mb (ρ := ρ) (bl := bl) hlt hk with e | e
     ·rw [e]; exact hM.ole _ hi0
     ·exact .inr e
    ·cases h1
  ·show zF w S _ (lk vars t) _
   rcases ik vars t with e | e
   ·rw [e]; exact .junk _
   ·exact Ro hi hn (hF.ev (.tmp t)) (lB hv _ e)
 ·exact h.elim
end
end Go.Sx
