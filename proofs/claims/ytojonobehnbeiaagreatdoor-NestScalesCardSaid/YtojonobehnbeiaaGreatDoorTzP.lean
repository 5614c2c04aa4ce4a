/- The texts of nests: each used bar has a line, and different lists have different texts. -/
import Derived.Test.YtojonobehnbeiaaGreatDoorTzI
namespace Go.Tz
open Go Go.Sx Go.Proofs
def isDg (c : UInt8) : Prop := 48 ≤ c.toNat ∧ c.toNat ≤ 57
def val (l : List UInt8) : Nat := l.foldl (fun a c => a * 10 + (c.toNat - 48)) 0
theorem ofNat_dg {k : Nat} (h : k < 10) : (UInt8.ofNat (48 + k)).toNat = 48 + k := by
  rw [UInt8.toNat_ofNat']
  omega
theorem dec_dg (u : Nat) : ∀ c ∈ Lib.decDigits u, isDg c := by
  induction u using Nat.strongRecOn with
  | _ u ih =>
    intro c hc
    rw [Lib.decDigits] at hc
    split at hc
    · rename_i h
      rw [List.mem_singleton] at hc
      subst hc
      unfold isDg
      rw [ofNat_dg h]; omega
    · rename_i h
      rcases List.mem_append.1 hc with hc | hc
      · exact ih (u / 10) (by omega) c hc
      · rw [List.mem_singleton] at hc
        subst hc
        unfold isDg
        rw [ofNat_dg (Nat.mod_lt _ (by omega))]; omega
theorem dec_val (u : Nat) : val (Lib.decDigits u) = u := by
  induction u using Nat.strongRecOn with
  | _ u ih =>
    rw [Lib.decDigits]
    split
    · rename_i h
      simp only [val, List.foldl_cons, List.foldl_nil]
      rw [ofNat_dg h]; omega
    · rename_i h
      have := ih (u / 10) (by omega)
      unfold val at this ⊢
      rw [List.foldl_append, this]
      simp only [List.foldl_cons, List.foldl_nil]
      rw [ofNat_dg (Nat.mod_lt _ (by omega))]
      omega
theorem itoa_nn {n : Int} (h : 0 ≤ n) : Lib.itoa n = Lib.decDigits n.toNat := by
  unfold Lib.itoa
  rw [if_neg (by omega)]
theorem itoa_dg {n : Int} (h : 0 ≤ n) : ∀ c ∈ Lib.itoa n, isDg c := by rw [itoa_nn h]; exact dec_dg _
theorem itoa_inj {m n : Int} (hm : 0 ≤ m) (hn : 0 ≤ n) (h : Lib.itoa m = Lib.itoa n) : m = n := by
  rw [itoa_nn hm, itoa_nn hn] at h
  have := congrArg val h
  rw [dec_val, dec_val] at this
  omega
theorem sep : ∀ {a b x y : List UInt8} {c d : UInt8}, (∀ z ∈ a, isDg z) → (∀ z ∈ b, isDg z) → ¬ isDg c → ¬ isDg d → a ++ c :: x = b ++ d :: y → a = b ∧ c = d ∧ x = y
  | [], [], x, y, c, d, _, _, _, _, h => by
    simp only [List.nil_append, List.cons.injEq] at h
    exact ⟨rfl, h.1, h.2⟩
  | [], z :: b, x, y, c, d, _, hb, hc, _, h => by
    simp only [List.nil_append, List.cons_append, List.cons.injEq] at h
    exact absurd (h.1 ▸ hb z List.mem_cons_self) hc
  | z :: a, [], x, y, c, d, ha, _, _, hd, h => by
    simp only [List.nil_append, List.cons_append, List.cons.injEq] at h
    exact absurd (h.1 ▸ ha z List.mem_cons_self) hd
  | z :: a, z' :: b, x, y, c, d, ha, hb, hc, hd, h => by
    simp only [List.cons_append, List.cons.injEq] at h
    obtain ⟨h1, h2⟩ := h
    obtain ⟨h3, h4, h5⟩ := sep (fun z hz => ha z (List.mem_cons_of_mem _ hz)) (fun z hz => hb z (List.mem_cons_of_mem _ hz)) hc hd h2
    exact ⟨by rw [h1, h3], h4, h5⟩
theorem dg10 : ¬ isDg 10 := by unfold isDg; decide
theorem dg32 : ¬ isDg 32 := by unfold isDg; decide
theorem dg64 : ¬ isDg 64 := by unfold isDg; decide
def psL : List Int → List Int → List UInt8
  | p :: ps, q :: qs => pairTx p q ++ psL ps qs
  | _, _ => []
def txL : List Used → List UInt8
  | [] => []
  | u :: l => barTx u ++ txL l
theorem psL_app : ∀ {ps qs ps' qs' : List Int}, ps.length = qs.length → psL (ps ++ ps') (qs ++ qs') = psL ps qs ++ psL ps' qs'
  | [], [], _, _, _ => rfl
  | p :: ps, q :: qs, ps', qs', h => by
    simp only [List.cons_append, psL, List.append_assoc]
    rw [psL_app (by simpa using h)]
  | [], _ :: _, _, _, h => by simp at h
  | _ :: _, [], _, _, h => by simp at h
theorem psTx_take {ps qs : List Int} (h : ps.length = qs.length) : ∀ i, i ≤ ps.length → psTx ps qs i = psL (ps.take i) (qs.take i)
  | 0, _ => by simp [psTx, psL]
  | i + 1, hi => by
    have h1 : ps.take (i + 1) = ps.take i ++ [ps.getD i 0] := by
      rw [List.take_add_one, List.getElem?_eq_getElem (by omega), List.getD_eq_getElem?_getD, List.getElem?_eq_getElem (by omega)]; rfl
    have h2 : qs.take (i + 1) = qs.take i ++ [qs.getD i 0] := by
      rw [List.take_add_one, List.getElem?_eq_getElem (by omega), List.getD_eq_getElem?_getD, List.getElem?_eq_getElem (by omega)]; rfl
    rw [h1, h2, psL_app (by simp [List.length_take]; omega), psTx, psTx_take h i (by omega)]
    simp [psL]
theorem psTx_all {ps qs : List Int} (h : ps.length = qs.length) : psTx ps qs ps.length = psL ps qs := by
  rw [psTx_take h _ (Nat.le_refl _), List.take_length]
  congr 1
  rw [h, List.take_length]
theorem txL_app : ∀ (a b : List Used), txL (a ++ b) = txL a ++ txL b
  | [], _ => rfl
  | u :: a, b => by simp only [List.cons_append, txL, txL_app a b, List.append_assoc]
theorem usedTx_take (l : List Used) : ∀ i, i ≤ l.length → usedTx l i = txL (l.take i)
  | 0, _ => by simp [usedTx, txL]
  | i + 1, hi => by
    have h1 : l.take (i + 1) = l.take i ++ [l.getD i Enc.dflt] := by
      rw [List.take_add_one, List.getElem?_eq_getElem (by omega), List.getD_eq_getElem?_getD, List.getElem?_eq_getElem (by omega)]; rfl
    rw [h1, txL_app, usedTx, usedTx_take l i (by omega)]
    simp [txL]
theorem usedTx_all (l : List Used) : usedTx l l.length = txL l := by rw [usedTx_take l _ (Nat.le_refl _), List.take_length]
structure Fine (u : Used) : Prop where
  bar : 0 ≤ u.bar
  ps : ∀ n ∈ u.ps, 0 ≤ n
  at_ : ∀ n ∈ u.at_, 0 ≤ n
  len : u.ps.length = u.at_.length
theorem head_ps (ps qs : List Int) (r : List UInt8) : ∃ c x, psL ps qs ++ 10 :: r = c :: x ∧ ¬ isDg c := by
  match ps, qs with
  | [], _ => exact ⟨10, r, rfl, dg10⟩
  | _ :: _, [] => exact ⟨10, r, rfl, dg10⟩
  | p :: ps, q :: qs => exact ⟨32, Lib.itoa p ++ 64 :: (Lib.itoa q ++ (psL ps qs ++ 10 :: r)), by simp only [psL, pairTx, List.append_assoc, List.cons_append, List.nil_append], dg32⟩
theorem ps_inj : ∀ {ps qs ps' qs' : List Int} {r r' : List UInt8}, ps.length = qs.length → ps'.length = qs'.length → (∀ n ∈ ps, 0 ≤ n) → (∀ n ∈ qs, 0 ≤ n) → (∀ n ∈ ps', 0 ≤ n) → (∀ n ∈ qs', 0 ≤ n) →
    psL ps qs ++ 10 :: r = psL ps' qs' ++ 10 :: r' → ps = ps' ∧ qs = qs' ∧ r = r'
  | [], [], [], [], r, r', _, _, _, _, _, _, h => by
    simp only [psL, List.nil_append, List.cons.injEq, true_and] at h
    exact ⟨rfl, rfl, h⟩
  | [], [], p :: ps, q :: qs, r, r', _, _, _, _, _, _, h => by
    simp only [psL, pairTx, List.append_assoc, List.cons_append, List.nil_append, List.cons.injEq] at h
    exact absurd h.1 (by decide)
  | p :: ps, q :: qs, [], [], r, r', _, _, _, _, _, _, h => by
    simp only [psL, pairTx, List.append_assoc, List.cons_append, List.nil_append, List.cons.injEq] at h
    exact absurd h.1 (by decide)
  | p :: ps, q :: qs, p' :: ps', q' :: qs', r, r', h1, h2, a1, a2, a3, a4, h => by
    simp only [psL, pairTx, List.append_assoc, List.cons_append, List.nil_append, List.cons.injEq, true_and] at h
    obtain ⟨b1, _, b3⟩ := sep (itoa_dg (a1 p List.mem_cons_self)) (itoa_dg (a3 p' List.mem_cons_self)) dg64 dg64 h
    obtain ⟨c, x, e1, e2⟩ := head_ps ps qs r
    obtain ⟨c', x', e1', e2'⟩ := head_ps ps' qs' r'
    rw [e1, e1'] at b3
    obtain ⟨d1, d2, d3⟩ := sep (itoa_dg (a2 q List.mem_cons_self)) (itoa_dg (a4 q' List.mem_cons_self)) e2 e2' b3
    have h' : psL ps qs ++ 10 :: r = psL ps' qs' ++ 10 :: r' := by rw [e1, e1', d2, d3]
    obtain ⟨f1, f2, f3⟩ := ps_inj (by simpa using h1) (by simpa using h2) (fun n hn => a1 n (List.mem_cons_of_mem _ hn)) (fun n hn => a2 n (List.mem_cons_of_mem _ hn))
      (fun n hn => a3 n (List.mem_cons_of_mem _ hn)) (fun n hn => a4 n (List.mem_cons_of_mem _ hn)) h'
    exact ⟨by rw [f1, itoa_inj (a1 p List.mem_cons_self) (a3 p' List.mem_cons_self) b1], by rw [f2, itoa_inj (a2 q List.mem_cons_self) (a4 q' List.mem_cons_self) d1], f3⟩
  | [], _ :: _, _, _, _, _, h, _, _, _, _, _, _ => by simp at h
  | _ :: _, [], _, _, _, _, h, _, _, _, _, _, _ => by simp at h
  | _, _, [], _ :: _, _, _, _, h, _, _, _, _, _ => by simp at h
  | _, _, _ :: _, [], _, _, _, h, _, _, _, _, _ => by simp at h
theorem bar_eq {u : Used} (h : Fine u) (r : List UInt8) : barTx u ++ r = Lib.itoa u.bar ++ (psL u.ps u.at_ ++ 10 :: r) := by
  unfold barTx
  rw [psTx_all h.len]
  simp
theorem bar_inj {u v : Used} (hu : Fine u) (hv : Fine v) {r r' : List UInt8} (h : barTx u ++ r = barTx v ++ r') : u = v ∧ r = r' := by
  rw [bar_eq hu, bar_eq hv] at h
  obtain ⟨c, x, e1, e2⟩ := head_ps u.ps u.at_ r
  obtain ⟨c', x', e1', e2'⟩ := head_ps v.ps v.at_ r'
  rw [e1, e1'] at h
  obtain ⟨d1, d2, d3⟩ := sep (itoa_dg hu.bar) (itoa_dg hv.bar) e2 e2' h
  have h' : psL u.ps u.at_ ++ 10 :: r = psL v.ps v.at_ ++ 10 :: r' := by rw [e1, e1', d2, d3]
  obtain ⟨f1, f2, f3⟩ := ps_inj hu.len hv.len hu.ps hu.at_ hv.ps hv.at_ h'
  have f0 := itoa_inj hu.bar hv.bar d1
  cases u; cases v
  simp_all
theorem bar_ne (u : Used) (r : List UInt8) : barTx u ++ r ≠ [] := by simp [barTx]
theorem tx_inj : ∀ {l m : List Used}, (∀ u ∈ l, Fine u) → (∀ u ∈ m, Fine u) → txL l = txL m → l = m
  | [], [], _, _, _ => rfl
  | [], v :: m, _, _, h => absurd h.symm (bar_ne v _)
  | u :: l, [], _, _, h => absurd h (bar_ne u _)
  | u :: l, v :: m, hl, hm, h => by
    obtain ⟨h1, h2⟩ := bar_inj (hl u List.mem_cons_self) (hm v List.mem_cons_self) h
    rw [h1, tx_inj (fun w hw => hl w (List.mem_cons_of_mem _ hw)) (fun w hw => hm w (List.mem_cons_of_mem _ hw)) h2]
theorem dg_count {l : List UInt8} (h : ∀ c ∈ l, isDg c) : l.count 10 = 0 := List.count_eq_zero.2 fun hc => dg10 (h 10 hc)
theorem ps_count : ∀ {ps qs : List Int}, (∀ n ∈ ps, 0 ≤ n) → (∀ n ∈ qs, 0 ≤ n) → (psL ps qs).count 10 = 0
  | [], _, _, _ => rfl
  | _ :: _, [], _, _ => rfl
  | p :: ps, q :: qs, h1, h2 => by
    simp only [psL, pairTx, List.count_append]
    rw [dg_count (itoa_dg (h1 p List.mem_cons_self)), dg_count (itoa_dg (h2 q List.mem_cons_self)), ps_count (fun n hn => h1 n (List.mem_cons_of_mem _ hn)) (fun n hn => h2 n (List.mem_cons_of_mem _ hn))]
    decide
theorem tx_count : ∀ {l : List Used}, (∀ u ∈ l, Fine u) → (txL l).count 10 = l.length
  | [], _ => rfl
  | u :: l, h => by
    have hu := h u List.mem_cons_self
    simp only [txL, List.count_append, List.length_cons]
    rw [tx_count fun w hw => h w (List.mem_cons_of_mem _ hw)]
    unfold barTx
    rw [psTx_all hu.len]
    simp only [List.count_append]
    rw [dg_count (itoa_dg hu.bar), ps_count hu.ps hu.at_]
    have : List.count (10 : UInt8) [10] = 1 := by decide
    omega
theorem fine_of {l : List Used} (h : printE l = 0) : (∀ u ∈ l, Fine u) ∧ printS l = txL l := by
  have hS : printS l = usedTx l l.length := by unfold printS; rw [h]; rfl
  refine ⟨?_, hS.trans (usedTx_all l)⟩
  unfold printE at h
  cases h1 : ltB 64 (l.length : Int) || l.any pLong with
  | true => rw [h1] at h; cases h
  | false =>
  rw [h1] at h
  cases h2 : l.any pOdd with
  | true => rw [h2] at h; cases h
  | false =>
  rw [h2] at h
  cases h3 : l.any pBad with
  | true => rw [h3] at h; cases h
  | false =>
  intro u hu
  have b1 := List.any_eq_false.1 h2 u hu
  have b2 := List.any_eq_false.1 h3 u hu
  simp only [pOdd, bne_iff_ne, ne_eq, Decidable.not_not] at b1
  simp only [pBad, Bool.or_eq_true, not_or] at b2
  obtain ⟨⟨c1, c2⟩, c3⟩ := b2
  have nn : ∀ {m : List Int}, ¬ m.any pNeg = true → ∀ n ∈ m, 0 ≤ n := fun {m} hm n hn => by
    by_cases h0 : n < 0
    · exact absurd (List.any_eq_true.2 ⟨n, hn, show pNeg n = true from (ltB_iff _ _).2 h0⟩) hm
    · omega
  refine ⟨?_, nn c2, nn c3, by omega⟩
  by_cases h0 : u.bar < 0
  · exact absurd ((ltB_iff _ _).2 h0) c1
  · omega
theorem law_inj {l m : List Used} (h : printE l = 0) (h' : printE m = 0) : (printS l == printS m) = decide (l = m) := by
  obtain ⟨h1, h2⟩ := fine_of h
  obtain ⟨h3, h4⟩ := fine_of h'
  rw [Bool.eq_iff_iff, beq_iff_eq, decide_eq_true_eq]
  constructor
  · intro e
    rw [h2, h4] at e
    exact tx_inj h1 h3 e
  · rintro rfl; rfl
theorem law_err {l : List Used} (h : printE l ≠ 0) : printS l = [] := by
  unfold printS
  rw [show (printE l == 0) = false from beq_eq_false_iff_ne.2 h]
  rfl
end Go.Tz
