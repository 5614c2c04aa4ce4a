/- The single pieces of a list, in order. -/
import Derived.Test.YtojonobehnbeiaaGreatDoorTzM
import Derived.Test.YtojonobehnbeiaaGreatDoorTzL
namespace Go.Tz
open Go Go.Sx Go.Proofs
def one (c : Cut) (m : Int) : Cut := ⟨c.w, c.d, c.l, [m]⟩
def singlesOf (l : List Cut) : List Cut := l.flatMap fun c => c.ms.map (one c)
def putL : List Cut → Cut → List Cut
  | [], x => [x]
  | a :: l, x => bif behB a x then a :: putL l x else x :: a :: l
def splitL (l : List Cut) : List Cut := (singlesOf l).foldl putL []
theorem putL_perm (x : Cut) : ∀ l, (putL l x).Perm (x :: l)
  | [] => .refl _
  | a :: l => by
    unfold putL
    cases behB a x
    · exact .refl _
    · exact ((putL_perm x l).cons a).trans (.swap _ _ _)
theorem putL_sorted (x : Cut) : ∀ {l : List Cut}, l.Pairwise (fun a b => behB b a = false) → (putL l x).Pairwise fun a b => behB b a = false
  | [], _ => List.pairwise_singleton _ _
  | a :: l, h => by
    obtain ⟨h1, h2⟩ := List.pairwise_cons.1 h
    unfold putL
    cases hb : behB a x with
    | true =>
      refine List.pairwise_cons.2 ⟨fun b hb' => ?_, putL_sorted x h2⟩
      rcases List.mem_cons.1 ((putL_perm x l).subset hb') with rfl | hm
      · cases hc : behB b a with
        | false => rfl
        | true =>
          have := Key.trans _ _ _ hb hc
          rw [Key.irrefl] at this
          cases this
      · exact h1 _ hm
    | false =>
      refine List.pairwise_cons.2 ⟨fun b hb' => ?_, h⟩
      rcases List.mem_cons.1 hb' with rfl | hm
      · exact hb
      · exact Key.ntrans _ _ _ (h1 _ hm) hb
theorem foldl_put : ∀ (s l : List Cut), l.Pairwise (fun a b => behB b a = false) → (s.foldl putL l).Perm (s ++ l) ∧ (s.foldl putL l).Pairwise fun a b => behB b a = false
  | [], l, h => ⟨.refl _, h⟩
  | x :: s, l, h => by
    obtain ⟨h1, h2⟩ := foldl_put s (putL l x) (putL_sorted x h)
    refine ⟨h1.trans (((putL_perm x l).append_left s).trans ?_), h2⟩
    exact List.perm_middle
theorem splitL_perm (l : List Cut) : (splitL l).Perm (singlesOf l) := (foldl_put (singlesOf l) [] .nil).1.trans (by rw [List.append_nil])
theorem splitL_sorted (l : List Cut) : (splitL l).Pairwise fun a b => behB b a = false := (foldl_put (singlesOf l) [] .nil).2
theorem single_mem {l : List Cut} {c : Cut} (h : c ∈ singlesOf l) : ∃ m, c.ms = [m] := by
  obtain ⟨a, _, h2⟩ := List.mem_flatMap.1 h
  obtain ⟨m, _, rfl⟩ := List.mem_map.1 h2
  exact ⟨m, rfl⟩
theorem Key.anti {a b : Key} (h1 : Key.lt a b = false) (h2 : Key.lt b a = false) : a = b := by
  unfold Key.lt at h1 h2
  simp only [decide_eq_false_iff_not] at h1 h2
  cases a; cases b
  simp only [Key.mk.injEq]
  simp only at h1 h2
  omega
theorem splitL_only {l s : List Cut} (hp : s.Perm (singlesOf l)) (hs : s.Pairwise fun a b => behB b a = false) : s = splitL l := by
  refine List.Perm.eq_of_pairwise (le := fun a b => behB b a = false) (fun a b ha hb h1 h2 => ?_) hs (splitL_sorted l) (hp.trans (splitL_perm l).symm)
  obtain ⟨m, hm⟩ := single_mem (hp.subset ha)
  obtain ⟨n, hn⟩ := single_mem ((splitL_perm l).subset hb)
  have := Key.anti h2 h1
  cases a; cases b
  simp only at hm hn
  subst hm; subst hn
  simp only [Cut.key, Key.mk.injEq, List.getD_cons_zero] at this
  simp [this]
theorem splitL_sort {l : List Cut} {p : List Nat} (hp : p.Perm (List.range (singlesOf l).length))
    (hs : p.Pairwise fun i j => Key.lt ((singlesOf l).getD j ⟨0, 0, 0, []⟩).key ((singlesOf l).getD i ⟨0, 0, 0, []⟩).key = false) :
    (splitL l).length = p.length ∧ ∀ i, i < p.length → (splitL l).getD i ⟨0, 0, 0, []⟩ = (singlesOf l).getD (p.getD i 0) ⟨0, 0, 0, []⟩ := by
  have e : p.map (fun i => (singlesOf l).getD i ⟨0, 0, 0, []⟩) = splitL l := by
    refine splitL_only ((hp.map _).trans ?_) (List.pairwise_map.2 hs)
    generalize singlesOf l = s
    have : (List.range s.length).map (fun i => s.getD i ⟨0, 0, 0, []⟩) = s := by
      apply List.ext_getElem
      · simp
      · intro i h1 h2
        simp [List.getElem?_eq_getElem h2]
    rw [this]
  rw [← e]
  refine ⟨by simp, fun i hi => ?_⟩
  simp only [List.getD_eq_getElem?_getD, List.getElem?_map, List.getElem?_eq_getElem hi, Option.map_some, Option.getD_some]
def posL : List Cut → Cut → Nat
  | [], _ => 0
  | a :: l, x => bif behB a x then posL l x + 1 else 0
theorem posL_le (x : Cut) : ∀ l, posL l x ≤ l.length
  | [] => Nat.le_refl _
  | a :: l => by
    have := posL_le x l
    unfold posL
    cases behB a x <;> simp <;> omega
theorem putL_pos (x : Cut) : ∀ l, putL l x = l.take (posL l x) ++ x :: l.drop (posL l x)
  | [] => rfl
  | a :: l => by
    unfold putL posL
    cases behB a x
    · rfl
    · simp [putL_pos x l]
theorem posL_at {l : List Cut} {x : Cut} : ∀ {z : Nat}, z ≤ l.length → (∀ i, i < z → behB (l.getD i ⟨0, 0, 0, []⟩) x = true) → (z = l.length ∨ behB (l.getD z ⟨0, 0, 0, []⟩) x = false) → posL l x = z := by
  induction l with
  | nil => intro z hz _ _; have : z = 0 := by simpa using hz
           subst this; rfl
  | cons a l ih =>
    intro z hz h1 h2
    unfold posL
    cases z with
    | zero =>
      rcases h2 with h2 | h2
      · cases h2
      · rw [List.getD_cons_zero] at h2; rw [h2]; rfl
    | succ z =>
      have := h1 0 (by omega)
      rw [List.getD_cons_zero] at this
      rw [this, cond_true, ih (z := z) (by simpa using hz) (fun i hi => by simpa using h1 (i + 1) (by omega)) (by simpa using h2)]
theorem putL_len (x : Cut) (l : List Cut) : (putL l x).length = l.length + 1 := by rw [(putL_perm x l).length_eq]; rfl
theorem singlesOf_snoc (l : List Cut) {z : Nat} (hz : z < l.length) : singlesOf (l.take (z + 1)) = singlesOf (l.take z) ++ ((l.getD z ⟨0, 0, 0, []⟩).ms.map (one (l.getD z ⟨0, 0, 0, []⟩))) := by
  have e : l.take (z + 1) = l.take z ++ [l.getD z ⟨0, 0, 0, []⟩] := by
    rw [List.take_add_one, List.getElem?_eq_getElem hz, List.getD_eq_getElem?_getD, List.getElem?_eq_getElem hz]; rfl
  rw [e]
  unfold singlesOf
  rw [List.flatMap_append]
  simp
end Go.Tz

/- Where pieces lie in a bar: the library's way and the reference's. -/
namespace Go.Tz
open Go Go.Sx Go.Proofs
def fillS (k to : Int) : Int → List Int → List Int → List Int × List Int
  | _, out, [] => (out, [])
  | at_, out, n :: ls => bif leB (at_ + n) to then fillS k to (at_ + (n + k)) (out ++ [at_]) ls else (out, n :: ls)
def fitsS (k : Int) : Int → List Gap → List Int → List Int → List Int × List Int
  | _, [], out, ls => (out, ls)
  | from_, g :: gs, out, ls =>
    bif ltB from_ g.a then fitsS k g.b gs (fillS k g.a from_ out ls).1 (fillS k g.a from_ out ls).2 else fitsS k g.b gs out ls
def gapsOf (b : Bar) : List Gap := b.gs ++ [⟨b.l, b.l⟩]
def partsF : Int → List Gap → Int → List Gap
  | fr, [], L => bif ltB fr L then [⟨fr, L⟩] else []
  | fr, g :: gs, L => bif ltB fr g.a then ⟨fr, g.a⟩ :: partsF g.b gs L else partsF g.b gs L
def codeF (k : Int) : List Gap → List Int → List Int → List Int × List Int
  | [], out, ls => (out, ls)
  | g :: gs, out, ls => codeF k gs (fillS k g.b g.a out ls).1 (fillS k g.b g.a out ls).2
theorem fitsS_parts (k L : Int) : ∀ gs fr out ls, fitsS k fr (gs ++ [⟨L, L⟩]) out ls = codeF k (partsF fr gs L) out ls
  | [], fr, out, ls => by
    simp only [List.nil_append, fitsS, partsF]
    cases ltB fr L <;> rfl
  | g :: gs, fr, out, ls => by
    simp only [List.cons_append, fitsS, partsF]
    cases ltB fr g.a
    · exact fitsS_parts k L gs _ _ _
    · exact fitsS_parts k L gs _ _ _
def refF (k : Int) : List Gap → Int → List Int → List Int → Option (List Int)
  | _, _, out, [] => some out
  | [], _, _, _ :: _ => none
  | g :: gs, at_, out, n :: ls =>
    if g.b < max at_ g.a + n then refF k gs at_ out (n :: ls)
    else refF k (g :: gs) (min (max at_ g.a + n + k) g.b) (out ++ [max at_ g.a]) ls
  termination_by gs _ _ ls => gs.length + ls.length
theorem refF_nil (k : Int) (gs : List Gap) (a : Int) (out : List Int) : refF k gs a out [] = some out := by rw [refF]
theorem refF_none (k : Int) (a : Int) (out : List Int) (n : Int) (ls : List Int) : refF k [] a out (n :: ls) = none := by rw [refF]
theorem refF_next {k : Int} {g : Gap} {gs : List Gap} {a : Int} {out : List Int} {n : Int} {ls : List Int} (h : g.b < max a g.a + n) :
    refF k (g :: gs) a out (n :: ls) = refF k gs a out (n :: ls) := by rw [refF, if_pos h]
theorem refF_in {k : Int} {g : Gap} {gs : List Gap} {a : Int} {out : List Int} {n : Int} {ls : List Int} (h : ¬ g.b < max a g.a + n) :
    refF k (g :: gs) a out (n :: ls) = refF k (g :: gs) (min (max a g.a + n + k) g.b) (out ++ [max a g.a]) ls := by rw [refF, if_neg h]
def fromP : Int → List Gap → Prop
  | _, [] => True
  | lo, g :: gs => lo ≤ g.a ∧ g.a < g.b ∧ fromP g.b gs
theorem fromP.mono {lo lo' : Int} (h : lo' ≤ lo) : ∀ {gs : List Gap}, fromP lo gs → fromP lo' gs
  | [], _ => trivial
  | _ :: _, ⟨h1, h2⟩ => ⟨by omega, h2⟩
theorem refF_at {k : Int} : ∀ {gs : List Gap} {a a' : Int} {out ls : List Int}, fromP a gs → fromP a' gs → refF k gs a out ls = refF k gs a' out ls
  | [], a, a', out, ls, _, _ => by cases ls <;> simp only [refF_nil, refF_none]
  | g :: gs, a, a', out, [], _, _ => by simp only [refF_nil]
  | g :: gs, a, a', out, n :: ls, h, h' => by
    have e : max a g.a = g.a := Int.max_eq_right h.1
    have e' : max a' g.a = g.a := Int.max_eq_right h'.1
    by_cases hc : g.b < g.a + n
    · rw [refF_next (by rw [e]; exact hc), refF_next (by rw [e']; exact hc)]
      exact refF_at (h.2.2.mono (by have := h.1; have := h.2.1; omega)) (h.2.2.mono (by have := h'.1; have := h.2.1; omega))
    · rw [refF_in (by rw [e]; exact hc), refF_in (by rw [e']; exact hc), e, e']
theorem refF_full {k : Int} {g : Gap} {gs : List Gap} {a : Int} {out ls : List Int} (ha : g.b ≤ a) (hl : ∀ n ∈ ls, 1 ≤ n) :
    refF k (g :: gs) a out ls = refF k gs a out ls := by
  cases ls with
  | nil => simp only [refF_nil]
  | cons n ls =>
    refine refF_next ?_
    have := hl n List.mem_cons_self
    have : a ≤ max a g.a := Int.le_max_left _ _
    omega
theorem fillS_full {k to : Int} {a : Int} {out ls : List Int} (ha : to ≤ a) (hl : ∀ n ∈ ls, 1 ≤ n) : fillS k to a out ls = (out, ls) := by
  cases ls with
  | nil => rfl
  | cons n ls =>
    have := hl n List.mem_cons_self
    rw [fillS, show leB (a + n) to = false by rw [leB_eq, decide_eq_false_iff_not]; omega]
    rfl
theorem fillS_mem {k to : Int} : ∀ {a : Int} {out ls : List Int}, ∀ n ∈ (fillS k to a out ls).2, n ∈ ls
  | _, _, [] => fun _ h => h
  | a, out, n :: ls => fun m h => by
    unfold fillS at h
    cases hc : leB (a + n) to with
    | false => rw [hc] at h; exact h
    | true => rw [hc] at h; exact List.mem_cons_of_mem _ (fillS_mem m h)
theorem refF_fill {k : Int} (hk : 0 ≤ k) {g : Gap} {gs : List Gap} (hg : g.a < g.b) (hs : fromP g.b gs) : ∀ {ls : List Int} {a : Int} {out : List Int}, g.a ≤ a → a ≤ g.b → (∀ n ∈ ls, 1 ≤ n) →
    refF k (g :: gs) a out ls = refF k gs g.b (fillS k g.b a out ls).1 (fillS k g.b a out ls).2
  | [], a, out, _, _, _ => by simp only [fillS, refF_nil]
  | n :: ls, a, out, h1, h2, hl => by
    have e : max a g.a = a := Int.max_eq_left h1
    have hn := hl n List.mem_cons_self
    have hl' : ∀ m ∈ ls, 1 ≤ m := fun m hm => hl m (List.mem_cons_of_mem _ hm)
    by_cases hc : g.b < a + n
    · rw [refF_next (by rw [e]; exact hc), fillS, show leB (a + n) g.b = false by rw [leB_eq, decide_eq_false_iff_not]; omega]
      exact refF_at (hs.mono (by omega)) hs
    · rw [refF_in (by rw [e]; exact hc), fillS, show leB (a + n) g.b = true by rw [leB_eq, decide_eq_true_eq]; omega, e]
      simp only [cond_true]
      by_cases h3 : a + n + k ≤ g.b
      · rw [show min (a + n + k) g.b = a + (n + k) by omega]
        exact refF_fill hk hg hs (by omega) (by omega) hl'
      · rw [show min (a + n + k) g.b = g.b by omega, refF_full (Int.le_refl _) hl', fillS_full (a := a + (n + k)) (by omega) hl']
theorem refF_code {k : Int} (hk : 0 ≤ k) : ∀ {gs : List Gap} {a : Int} {out ls : List Int}, fromP a gs → (∀ n ∈ ls, 1 ≤ n) →
    refF k gs a out ls = if (codeF k gs out ls).2 = [] then some (codeF k gs out ls).1 else none
  | [], a, out, ls, _, _ => by cases ls <;> simp [refF_nil, refF_none, codeF]
  | g :: gs, a, out, ls, h, hl => by
    rw [refF_at (a' := g.a) h ⟨Int.le_refl _, h.2⟩, refF_fill hk h.2.1 h.2.2 (Int.le_refl _) (by have := h.2.1; omega) hl, codeF]
    exact refF_code hk h.2.2 fun n hn => hl n (fillS_mem n hn)
theorem gapsFrom_cons {L : Int} {p : Option Gap} {g : Gap} {gs : List Gap} (h : gapsFrom L p (g :: gs) = 0) :
    (0 ≤ g.a ∧ g.b ≤ L ∧ g.a < g.b) ∧ (∀ q, p = some q → q.b < g.a) ∧ gapsFrom L (some g) gs = 0 := by
  cases c1 : ltB g.a 0 || ltB L g.b || leB g.b g.a with
  | true => unfold gapsFrom at h; rw [c1] at h; cases h
  | false =>
    cases p with
    | none =>
      simp only [gapsFrom, c1, cond_false] at h
      simp only [Bool.or_eq_false_iff, ltB_eq, leB_eq, decide_eq_false_iff_not] at c1
      exact ⟨⟨by omega, by omega, by omega⟩, (fun q (hq : none = some q) => by cases hq), h⟩
    | some q =>
      simp only [gapsFrom, c1, cond_false] at h
      cases c2 : leB g.a q.b with
      | true => rw [c2] at h; cases h
      | false =>
        rw [c2] at h
        simp only [Bool.or_eq_false_iff, ltB_eq, leB_eq, decide_eq_false_iff_not] at c1 c2
        exact ⟨⟨by omega, by omega, by omega⟩, (fun q' (hq : some q = some q') => by cases hq; omega), h⟩
theorem gaps_parts {L : Int} : ∀ {gs : List Gap} {p : Option Gap} {fr : Int}, gapsFrom L p gs = 0 → (match p with | none => fr = 0 | some q => fr = q.b) → 0 ≤ fr → fr ≤ L → fromP fr (partsF fr gs L)
  | [], p, fr, _, _, h0, h1 => by
    unfold partsF
    cases hc : ltB fr L with
    | false => trivial
    | true =>
      rw [ltB_eq, decide_eq_true_eq] at hc
      exact ⟨Int.le_refl _, hc, trivial⟩
  | g :: gs, p, fr, h, hp, h0, h1 => by
    obtain ⟨c1, c2, h⟩ := gapsFrom_cons h
    have hle : fr ≤ g.a := by
      cases p with
      | none => simp only at hp; omega
      | some q =>
        have := c2 q rfl
        simp only at hp
        omega
    have ih := gaps_parts (p := some g) (fr := g.b) h rfl (by omega) (by omega)
    unfold partsF
    cases hc : ltB fr g.a with
    | false => exact ih.mono (by omega)
    | true =>
      rw [ltB_eq, decide_eq_true_eq] at hc
      exact ⟨Int.le_refl _, hc, ih.mono (by simp only; omega)⟩
theorem parts_len (L : Int) : ∀ (gs : List Gap) (fr : Int), (partsF fr gs L).length ≤ gs.length + 1
  | [], fr => by unfold partsF; cases ltB fr L <;> simp
  | g :: gs, fr => by
    have := parts_len L gs g.b
    unfold partsF
    cases ltB fr g.a <;> simp <;> omega
theorem parts_le {L : Int} : ∀ {gs : List Gap} {p : Option Gap} {fr : Int}, gapsFrom L p gs = 0 → 0 ≤ fr → ∀ g ∈ partsF fr gs L, 0 ≤ g.a ∧ g.b ≤ L
  | [], p, fr, _, h0 => fun g hg => by
    unfold partsF at hg
    cases hc : ltB fr L with
    | false => rw [hc] at hg; cases hg
    | true =>
      rw [hc, cond_true, List.mem_singleton] at hg
      subst hg
      exact ⟨h0, Int.le_refl _⟩
  | g :: gs, p, fr, h, h0 => fun x hx => by
    obtain ⟨c1, c2, h⟩ := gapsFrom_cons h
    have ih := parts_le (p := some g) (fr := g.b) h (by omega)
    unfold partsF at hx
    cases hc : ltB fr g.a with
    | false => rw [hc] at hx; exact ih x hx
    | true =>
      rw [hc, cond_true, List.mem_cons] at hx
      rcases hx with rfl | hx
      · exact ⟨h0, by simp only; omega⟩
      · exact ih x hx
theorem barE_gaps {b : Bar} (h : barE b = 0) : gapsFrom b.l none b.gs = 0 ∧ 1 ≤ b.l ∧ b.l ≤ 65536 ∧ b.gs.length ≤ 16 ∧ 1 ≤ b.w ∧ b.w ≤ 1000 ∧ 0 ≤ b.n ∧ b.n ≤ 4096 ∧ 0 ≤ b.c ∧ b.c ≤ 1073741824 := by
  unfold barE at h
  cases c1 : !between b.w 1 1000 || !between b.d 1 1000 || !between b.l 1 65536 || !between b.n 0 4096 || !between b.c 0 1073741824 with
  | true => rw [c1] at h; cases h
  | false =>
  rw [c1] at h
  cases c2 : Nat.blt 16 b.gs.length with
  | true => rw [c2] at h; cases h
  | false =>
  rw [c2] at h
  simp only [Bool.or_eq_false_iff, Bool.not_eq_false', between, Bool.and_eq_true, leB_eq, decide_eq_true_eq] at c1
  have : ¬ 16 < b.gs.length := fun hh => by rw [(blt_iff _ _).2 hh] at c2; cases c2
  refine ⟨h, ?_⟩
  omega
def kerfE (b : Bar) (k : Int) : Int := bif barE b != 0 then 1 else bif !between k 0 100 then 2 else 0
def lenOut (n : Int) : Bool := !between n 1 65536
def fitsE (b : Bar) (ls : List Int) (k : Int) : Int :=
  bif kerfE b k != 0 then kerfE b k else bif Nat.blt 64 ls.length then 4 else bif ls.any lenOut then 2 else 0
def fitsR (b : Bar) (ls : List Int) (k : Int) : List Int × List Int := fitsS k 0 (gapsOf b) [] ls
def fitsOk (b : Bar) (ls : List Int) (k : Int) : Bool := (fitsE b ls k == 0) && (fitsR b ls k).2.isEmpty
def fitsAt (b : Bar) (ls : List Int) (k : Int) : List Int := bif fitsOk b ls k then (fitsR b ls k).1 else []
theorem fitsE_ok {b : Bar} {ls : List Int} {k : Int} (h : fitsE b ls k = 0) : barE b = 0 ∧ 0 ≤ k ∧ k ≤ 100 ∧ ls.length ≤ 64 ∧ ∀ n ∈ ls, 1 ≤ n ∧ n ≤ 65536 := by
  unfold fitsE kerfE at h
  cases c0 : barE b != 0 with
  | true => rw [c0] at h; cases h
  | false =>
  rw [c0] at h
  cases c1 : !between k 0 100 with
  | true => rw [c1] at h; cases h
  | false =>
  rw [c1] at h
  simp only [cond_false, bne_self_eq_false] at h
  cases c2 : Nat.blt 64 ls.length with
  | true => rw [c2] at h; cases h
  | false =>
  rw [c2] at h
  cases c3 : ls.any lenOut with
  | true => rw [c3] at h; cases h
  | false =>
  have : ¬ 64 < ls.length := fun hh => by rw [(blt_iff _ _).2 hh] at c2; cases c2
  simp only [Bool.not_eq_false', between, Bool.and_eq_true, leB_eq, decide_eq_true_eq] at c1
  refine ⟨by simpa using c0, c1.1, c1.2, by omega, fun n hn => ?_⟩
  rw [List.any_eq_false] at c3
  have := c3 n hn
  simp only [lenOut, Bool.not_eq_true, Bool.not_eq_false', between, Bool.and_eq_true, leB_eq, decide_eq_true_eq] at this
  exact this
theorem fitsE_bar {b : Bar} {ls : List Int} {k : Int} (h : barE b ≠ 0) : fitsE b ls k = 1 := by
  have e : kerfE b k = 1 := by unfold kerfE; rw [bne_iff_ne.2 h]; rfl
  unfold fitsE; rw [e]; rfl
theorem kerfE_out {b : Bar} {k : Int} (h : barE b = 0) : kerfE b k = bif ltB k 0 || ltB 100 k then 2 else 0 := by
  unfold kerfE
  rw [h, show (!between k 0 100) = (ltB k 0 || ltB 100 k) from out_btw k 0 100]
  rfl
theorem fitsE_kerf {b : Bar} {ls : List Int} {k : Int} (h : barE b = 0) (h2 : (ltB k 0 || ltB 100 k) = true) : fitsE b ls k = 2 := by
  unfold fitsE; rw [kerfE_out h, h2]; rfl
theorem fitsE_long {b : Bar} {ls : List Int} {k : Int} (h : barE b = 0) (h2 : (ltB k 0 || ltB 100 k) = false) (h3 : 64 < ls.length) : fitsE b ls k = 4 := by
  unfold fitsE; rw [kerfE_out h, h2, (blt_iff _ _).2 h3]; rfl
theorem fitsE_any {b : Bar} {ls : List Int} {k : Int} (h : barE b = 0) (h2 : (ltB k 0 || ltB 100 k) = false) (h3 : ls.length ≤ 64) : fitsE b ls k = bif ls.any lenOut then 2 else 0 := by
  unfold fitsE
  rw [kerfE_out h, h2, show Nat.blt 64 ls.length = false by rw [Bool.eq_false_iff]; intro h; have := (blt_iff _ _).1 h; omega]
  rfl
theorem lenOut_eq (n : Int) : lenOut n = (ltB n 1 || ltB 65536 n) := out_btw n 1 65536
theorem fits_bad {b : Bar} {ls : List Int} {k : Int} (h : fitsE b ls k ≠ 0) : fitsOk b ls k = false ∧ fitsAt b ls k = [] := by
  have e : fitsOk b ls k = false := by unfold fitsOk; rw [beq_eq_false_iff_ne.2 h]; rfl
  exact ⟨e, by unfold fitsAt; rw [e]; rfl⟩
theorem fromP_lt : ∀ {lo : Int} {gs : List Gap}, fromP lo gs → ∀ g ∈ gs, g.a < g.b
  | _, [], _, _, h => by cases h
  | _, g :: gs, hp, x, h => by
    rcases List.mem_cons.1 h with rfl | h
    · exact hp.2.1
    · exact fromP_lt hp.2.2 x h
theorem parts_at {b : Bar} (h : barE b = 0) {i : Nat} (hi : i < (partsF 0 b.gs b.l).length) :
    0 ≤ ((partsF 0 b.gs b.l).getD i ⟨0, 0⟩).a ∧ ((partsF 0 b.gs b.l).getD i ⟨0, 0⟩).a < ((partsF 0 b.gs b.l).getD i ⟨0, 0⟩).b ∧ ((partsF 0 b.gs b.l).getD i ⟨0, 0⟩).b ≤ 65536 := by
  obtain ⟨g1, g2, g3, _⟩ := barE_gaps h
  have h6 := gaps_parts (p := none) (fr := 0) g1 rfl (Int.le_refl _) (by omega)
  have hm : (partsF 0 b.gs b.l).getD i ⟨0, 0⟩ ∈ partsF 0 b.gs b.l := by
    rw [List.getD_eq_getElem?_getD, List.getElem?_eq_getElem hi]
    exact List.getElem_mem hi
  have h7 := parts_le g1 (Int.le_refl _) _ hm
  have h8 := fromP_lt h6 _ hm
  omega
theorem gaps_in {L : Int} : ∀ {gs : List Gap} {p : Option Gap}, gapsFrom L p gs = 0 → ∀ g ∈ gs, 0 ≤ g.a ∧ g.a < g.b ∧ g.b ≤ L
  | [], _, _, _, h => by cases h
  | g :: gs, p, h0, x, h => by
    obtain ⟨c1, _, c3⟩ := gapsFrom_cons h0
    rcases List.mem_cons.1 h with rfl | h
    · omega
    · exact gaps_in c3 x h
theorem gapsOf_at {b : Bar} (h : barE b = 0) {i : Nat} (hi : i < (gapsOf b).length) :
    0 ≤ ((gapsOf b).getD i ⟨0, 0⟩).a ∧ ((gapsOf b).getD i ⟨0, 0⟩).a ≤ 65536 ∧ 0 ≤ ((gapsOf b).getD i ⟨0, 0⟩).b ∧ ((gapsOf b).getD i ⟨0, 0⟩).b ≤ 65536 := by
  obtain ⟨g1, g2, g3, _⟩ := barE_gaps h
  have hm : (gapsOf b).getD i ⟨0, 0⟩ ∈ gapsOf b := by
    rw [List.getD_eq_getElem?_getD, List.getElem?_eq_getElem hi]
    exact List.getElem_mem hi
  rcases List.mem_append.1 hm with h1 | h1
  · have := gaps_in g1 _ h1
    omega
  · rw [List.mem_singleton] at h1
    rw [h1]
    simp only
    omega
theorem fillS_next {k to a n : Int} {out ls : List Int} (h : a + n ≤ to) : fillS k to a out (n :: ls) = fillS k to (a + (n + k)) (out ++ [a]) ls := by
  rw [fillS, (leB_iff _ _).2 h]; rfl
theorem fillS_stop {k to a : Int} {out ls : List Int} {z : Nat} (h : ¬ (z < ls.length ∧ a + ls.getD z 0 ≤ to)) : fillS k to a out (ls.drop z) = (out, ls.drop z) := by
  by_cases hz : z < ls.length
  · rw [List.drop_eq_getElem_cons hz]
    have e : ls[z] = ls.getD z 0 := by rw [List.getD_eq_getElem?_getD, List.getElem?_eq_getElem hz]; rfl
    rw [e, fillS, show leB (a + ls.getD z 0) to = false by rw [leB_eq, decide_eq_false_iff_not]; exact fun hh => h ⟨hz, hh⟩]
    rfl
  · rw [List.drop_of_length_le (by omega), fillS]
theorem fits_ref {b : Bar} {ls : List Int} {k : Int} (h : fitsE b ls k = 0) :
    refF k (partsF 0 b.gs b.l) 0 [] ls = bif fitsOk b ls k then some (fitsAt b ls k) else none := by
  obtain ⟨h1, h2, h3, h4, h5⟩ := fitsE_ok h
  obtain ⟨g1, g2, g3, g4, _⟩ := barE_gaps h1
  have h6 := gaps_parts (p := none) (fr := 0) g1 rfl (Int.le_refl _) (by omega)
  rw [refF_code h2 h6 fun n hn => (h5 n hn).1, ← fitsS_parts]
  have e : fitsOk b ls k = (fitsR b ls k).2.isEmpty := by unfold fitsOk; rw [h]; rfl
  have e2 : fitsAt b ls k = bif (fitsR b ls k).2.isEmpty then (fitsR b ls k).1 else [] := by unfold fitsAt; rw [e]
  rw [e, e2]
  show (if (fitsR b ls k).2 = [] then some (fitsR b ls k).1 else none) = _
  cases hc : (fitsR b ls k).2 with
  | nil => rfl
  | cons a l => rfl
theorem fillS_len {k to : Int} : ∀ {a : Int} {out ls : List Int}, (fillS k to a out ls).1.length + (fillS k to a out ls).2.length = out.length + ls.length
  | _, _, [] => rfl
  | a, out, n :: ls => by
    unfold fillS
    cases leB (a + n) to with
    | false => rfl
    | true =>
      have := fillS_len (k := k) (to := to) (a := a + (n + k)) (out := out ++ [a]) (ls := ls)
      simp only [List.length_append, List.length_cons, List.length_nil] at this
      simp only [cond_true, List.length_cons]
      omega
theorem fitsS_len {k : Int} : ∀ {gs : List Gap} {fr : Int} {out ls : List Int}, (fitsS k fr gs out ls).1.length + (fitsS k fr gs out ls).2.length = out.length + ls.length
  | [], _, _, _ => rfl
  | g :: gs, fr, out, ls => by
    unfold fitsS
    cases ltB fr g.a with
    | false => exact fitsS_len
    | true => rw [cond_true, fitsS_len, fillS_len]
theorem fitsR_len (b : Bar) (ls : List Int) (k : Int) : (fitsR b ls k).1.length + (fitsR b ls k).2.length = ls.length := by
  have := fitsS_len (k := k) (gs := gapsOf b) (fr := 0) (out := []) (ls := ls)
  unfold fitsR
  simpa using this
theorem fitsAt_len {b : Bar} {ls : List Int} {k : Int} (h : fitsOk b ls k = true) : (fitsAt b ls k).length = ls.length := by
  have e : fitsAt b ls k = (fitsR b ls k).1 := by unfold fitsAt; rw [h]; rfl
  unfold fitsOk at h
  rw [Bool.and_eq_true] at h
  have h2 := List.isEmpty_iff.1 h.2
  have := fitsR_len b ls k
  rw [h2] at this
  rw [e]
  simpa using this
end Go.Tz
