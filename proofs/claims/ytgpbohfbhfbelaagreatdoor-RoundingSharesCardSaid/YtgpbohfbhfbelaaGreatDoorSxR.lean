/- The verification condition of code. -/
import Derived.Test.YtgpbohfbhfbelaaGreatDoorSxO
set_option linter.unusedSimpArgs false
set_option linter.unusedVariables false
namespace Go.Sx
open Go Go.RowKit
section
variable {E : Env} {w : World} {S : Nat → Prop} {ρ : Nat → Own}
theorem Ml {ks : List (Option Nat)} {bl : Nat → OB} {nb i k : Nat} (hi : i < nb) (hk : ks[i]? = some (some k)) : Yr ks bl ρ nb i = ρ k ∨ Yr ks bl ρ nb i = .dead := by
 unfold Yr
 grind
theorem UI {ks : List (Option Nat)} {bl : Nat → OB} {nb i k : Nat} (hi : i < nb) (hk : ks[i]? = some (some k)) (hd : Sc (bl i) = false) : Yr ks bl ρ nb i = ρ k := by
 unfold Yr
 rw [if_pos hi, hk]
 cases h : bl i <;> rw [h] at hd <;> first | cases hd | rfl
theorem jA {ks : List (Option Nat)} {bl : Nat → OB} {nb i : Nat} (h : Yr ks bl ρ nb i ≠ .dead) (h2 : Yr ks bl ρ nb i ≠ .none) (h3 : ∀ sz, Yr ks bl ρ nb i ≠ .nila sz) :
  ∃ k, ks[i]? = some (some k) ∧ Yr ks bl ρ nb i = ρ k := by
 by_cases hi : i < nb
 ·rcases hk : ks[i]? with _ | (_ | k)
  ·cases hb : bl i with
   | dead => exact absurd (by simp only [Yr, if_pos hi, hb]) h
   | box => exact absurd (by simp only [Yr, if_pos hi, hb, hk]) h
   | lrec => exact absurd (by simp only [Yr, if_pos hi, hb, hk]) h
   | arr t sz => exact absurd (by simp only [Yr, if_pos hi, hb, hk]) (h3 sz)
  ·cases hb : bl i with
   | dead => exact absurd (by simp only [Yr, if_pos hi, hb]) h
   | box => exact absurd (by simp only [Yr, if_pos hi, hb, hk]) h
   | lrec => exact absurd (by simp only [Yr, if_pos hi, hb, hk]) h
   | arr t sz => exact absurd (by simp only [Yr, if_pos hi, hb, hk]) (h3 sz)
  ·cases hb : bl i with
   | dead => exact absurd (by simp only [Yr, if_pos hi, hb]) h
   | box => exact ⟨k, rfl, by simp only [Yr, if_pos hi, hb, hk]⟩
   | lrec => exact ⟨k, rfl, by simp only [Yr, if_pos hi, hb, hk]⟩
   | arr t sz => exact ⟨k, rfl, by simp only [Yr, if_pos hi, hb, hk]⟩
 ·exact absurd (if_neg hi) h2
theorem Hi (vars : List (Nat × AV)) (t : Nat) : lk vars t = .junk ∨ (t, lk vars t) ∈ vars := by
 induction vars with
 | nil => exact .inl rfl
 | cons p vs ih =>
  obtain ⟨t', x⟩ := p
  simp only [lk]
  cases hb : Nat.beq t' t with
  | true =>
   simp_all
  | false =>
   grind
theorem xb {σ : zh} {a : Act} {vars : List (Nat × AV)} {bl : Nat → OB} {nb : Nat} {n : Nat} {more : Prop} (h : v6 n E.G.nb0 σ vars bl nb more) (hst : St E σ a w) : more ∧ St E (W6 n nb vars bl) a w := by
 rw [v6, uq, mC] at h
 split at h
 ·rename_i hc
  simp only [Bool.and_eq_true] at hc
  obtain ⟨⟨hnn, hnb0, hkeep⟩, hdis, hinb⟩ := hc
  have hnn := Nat.eq_of_beq_eq_true hnn
  subst hnn
  obtain ⟨⟨hmore, hv⟩, hb⟩ := h
  refine ⟨hmore, ?_⟩
  obtain ⟨S, ρ, hM, hF, hD⟩ := hst
  have hlen := S8 σ vars bl nb
  generalize oB σ vars bl nb = ks at *
  have lt_of : ∀ {i : Nat} {o : Option Nat}, ks[i]? = some o → i < nb := fun h => by rw [← hlen]; exact (List.getElem?_eq_some_iff.1 h).1
  have hi : ∀ k i, R3 ks 0 k = some i → Yr ks bl ρ nb i = ρ k ∨ Yr ks bl ρ nb i = .dead := fun k i e => by
   have := (NZ e).2
   exact Ml (lt_of this) (by simpa using this)
  have hn : ∀ i, ks[i]? = some none → ∃ sz, Yr ks bl ρ nb i = .nila sz ∨ Yr ks bl ρ nb i = .dead := fun i e => by
   unfold Yr
   rw [if_pos (lt_of e), e]
   cases bl i with
   | dead => simp
   | box => simp
   | lrec => simp
   | arr t sz => simp
  have hblk : ∀ i g, (Yr ks bl ρ nb i).has g → ∃ k, ks[i]? = some (some k) ∧ Yr ks bl ρ nb i = ρ k := fun i g e =>
   jA (fun h => by rw [h] at e; exact e.elim) (fun h => by rw [h] at e; exact e.elim) fun sz h => by rw [h] at e; exact e.elim
  refine ⟨S, Yr ks bl ρ nb, ⟨hM.fr, hM.sb, hM.sup, hM.sub, hM.glob, fun k hk => if_neg (Nat.not_lt.2 hk), fun i hlt => ?_, fun i g e => ?_, fun i j g e1 e2 => ?_, fun i g base cap sz L e => ?_, Nat.le_of_ble_eq_true hnb0, fun i hi0 => ?_⟩, ⟨hF.1, fun t _ => ?_⟩, hD⟩
  ·change i < nb at hlt
   have hob := wQ hb i hlt
   show Ta w S _ (bl i) _
   cases hbi : bl i with
   | dead =>
    have : Yr ks bl ρ nb i = .dead := by unfold Yr; rw [if_pos hlt, hbi]
    rw [this]; trivial
   | box t n cells =>
    split at hob
    ·rename_i k hk
     rw [UI hlt hk (by rw [hbi]; rfl)]
     have hok := hM.ok k (Ue hinb k (List.mem_of_getElem? hk))
     rw [hbi] at hob
     cases hσ : σ.bl k with
     | box t' n' cells' =>
      rw [hσ] at hob hok
      obtain ⟨rfl, rfl, h3⟩ := hob
      cases ho : ρ k with
      | box g =>
       rw [ho] at hok
       obtain ⟨c, c1, c2, c3⟩ := hok
       exact ⟨c, c1, c2, fun j hj => ⟨P3 hi hn (c3 j hj).1 (wQ h3 j hj), (c3 j hj).2⟩⟩
      | _ => rw [ho] at hok; exact hok.elim
     | _ => rw [hσ] at hob; exact hob.elim
    ·rw [hbi] at hob; exact hob.elim
   | lrec st pend =>
    split at hob
    ·rename_i k hk
     rw [UI hlt hk (by rw [hbi]; rfl)]
     have hok := hM.ok k (Ue hinb k (List.mem_of_getElem? hk))
     rw [hbi] at hob
     cases hσ : σ.bl k with
     | lrec st' pend' =>
      rw [hσ] at hob hok
      obtain ⟨rfl, rfl⟩ := hob
      cases ho : ρ k with
      | lrec g r => rw [ho] at hok; exact hok
      | _ => rw [ho] at hok; exact hok.elim
     | _ => rw [hσ] at hob; exact hob.elim
    ·rw [hbi] at hob; exact hob.elim
   | arr t sz len els =>
    split at hob
    ·rename_i k hk
     rw [UI hlt hk (by rw [hbi]; rfl)]
     have hok := hM.ok k (Ue hinb k (List.mem_of_getElem? hk))
     rw [hbi] at hob
     cases hσ : σ.bl k with
     | arr t' sz' len' els' =>
      rw [hσ] at hob hok
      obtain ⟨rfl, rfl, rfl, h3⟩ := hob
      cases ho : ρ k with
      | arr g base cap sz2 L =>
       rw [ho] at hok
       obtain ⟨e1, e2, c1, c2, c, c3, c4, c5⟩ := hok
       exact ⟨e1, e2, c1, c2, c, c3, c4, fun i j hi hj => ⟨wY (c5 i j hi hj).1 (h3 i j hi hj), (c5 i j hi hj).2⟩⟩
      | nila sz2 => rw [ho] at hok; exact hok
      | _ => rw [ho] at hok; exact hok.elim
     | _ => rw [hσ] at hob; exact hob.elim
    ·rename_i hno
     rw [hbi] at hob
     have : Yr ks bl ρ nb i = .nila sz := by
      rcases hk : ks[i]? with _ | (_ | k)
      ·simp_all
      ·simp only [Yr, if_pos hlt, hbi, hk]
      grind
     rw [this]
     exact ⟨rfl, hob⟩
  ·obtain ⟨k, h1, h2⟩ := hblk i g e
   rw [h2] at e
   exact hM.own k g e
  ·obtain ⟨k, h1, h2⟩ := hblk i g e1
   obtain ⟨k', h3, h4⟩ := hblk j g e2
   rw [h2] at e1
   rw [h4] at e2
   have := hM.dis k k' g e1 e2
   subst this
   exact T3 hdis i j k h1 h3
  ·obtain ⟨k, h1, h2⟩ := hblk i g (by rw [e]; rfl)
   rw [h2] at e
   exact hM.b0 k g base cap sz L e
  ·have h1 := List.all_eq_true.1 hkeep i (List.mem_range.2 hi0)
   have hlt : i < nb := Nat.lt_of_lt_of_le hi0 (Nat.le_of_ble_eq_true hnb0)
   simp only [Bool.or_eq_true] at h1
   show E.r0 i = Yr ks bl ρ nb i ∨ Yr ks bl ρ nb i = _
   rcases h1 with h1 | h1
   ·right
    cases hb : bl i with
    | dead => simp only [Yr, if_pos hlt, hb]
    | _ => rw [hb] at h1; cases h1
   ·split at h1
    ·rename_i k hk
     have := Nat.eq_of_beq_eq_true h1
     subst this
     rcases Ml (ρ := ρ) (bl := bl) hlt hk with e | e
     ·rw [e]; exact hM.ole _ hi0
     simp_all
    ·cases h1
  ·show zE w S _ (lk vars t) _
   rcases Hi vars t with e | e
   ·rw [e]; exact .junk _
   ·exact P3 hi hn (hF.ev (.tmp t)) (Lh hv _ e)
 simp_all
end
end Go.Sx
