/- cutlist.Total. -/
import Derived.Test.YtojonobehnbeiaaGreatDoorTzCe
import Derived.Test.YtojonobehnbeiaaGreatDoorTzGa
set_option linter.unusedSimpArgs false
namespace Go.Tz
open Go Go.Sx Go.Proofs
set_option maxRecDepth 100000
set_option maxHeartbeats 4000000
def totZ (ps : List Cut) : Nat → Int
  | 0 => 0
  | z + 1 => totZ ps z + (ps.getD z ⟨0, 0, 0, []⟩).l * ((ps.getD z ⟨0, 0, 0, []⟩).ms.length : Int)
def totE (ps : List Cut) : Int := bif cutsE ps != 0 then 1 else 0
def totV (ps : List Cut) : Int := bif cutsE ps != 0 then 0 else totZ ps ps.length
theorem piece_tot {ps : List Cut} (h : cutsE ps = 0) {z : Nat} (hz : z < ps.length) : (ps.getD z ⟨0, 0, 0, []⟩).ms.length ≤ 512 ∧ 0 ≤ (ps.getD z ⟨0, 0, 0, []⟩).l * ((ps.getD z ⟨0, 0, 0, []⟩).ms.length : Int) ∧ (ps.getD z ⟨0, 0, 0, []⟩).l * ((ps.getD z ⟨0, 0, 0, []⟩).ms.length : Int) ≤ 536870912 := by
  have h2 := pieceE_ok ((cutsE_ok h).2 z hz)
  have h3 := asc_len h2.2.1 h2.2.2
  have h4 := pieceE_l ((cutsE_ok h).2 z hz)
  generalize (ps.getD z ⟨0, 0, 0, []⟩).l = a at *
  have hm : (ps.getD z ⟨0, 0, 0, []⟩).ms.length ≤ 512 := by omega
  generalize (ps.getD z ⟨0, 0, 0, []⟩).ms.length = m at *
  have m0 : (0 : Int) ≤ (m : Int) := by omega
  refine ⟨hm, Int.mul_nonneg (by omega) m0, ?_⟩
  calc a * (m : Int) ≤ 1048576 * (m : Int) := Int.mul_le_mul_of_nonneg_right h4.2 m0
    _ ≤ 536870912 := by omega
theorem totZ_le {ps : List Cut} (h : cutsE ps = 0) : ∀ z, z ≤ ps.length → 0 ≤ totZ ps z ∧ totZ ps z ≤ 536870912 * (z : Int)
  | 0, _ => by simp [totZ]
  | z + 1, hz => by
    have h1 := totZ_le h z (by omega)
    have h2 := piece_tot h (z := z) (by omega)
    unfold totZ
    omega
def total_an (ps : List Cut) : Ann :=
  .two .auto (.two .auto (.two .auto (.two (.two .auto (.one (.loop Nat (fun σ z => [(10, σ.tm 10), (11, σ.tm 11), (4, .i (totZ ps z)), (12, .i z)]) (fun σ z => []) 0 (fun σ z => z ≤ ps.length) (fun σ z => ps.length - z) .auto))) .auto)))
theorem total_vc (ps : List Cut) : bndL [slX 4 ps] → bsplit (slOk Cut (slX 4 ps)) (bsplit (cutsE (slD (slX 4 ps)) != (0 : Int)) (2 = List.length [AV.v (Value.int .i64 (0 : Int)), AV.v (Value.int .i64 (1 : Int))] ∧ (True ∧ IntKind.i64 = .i64 ∧ (0 : Int) = totV ps) ∧ IntKind.i64 = .i64 ∧ (1 : Int) = totE ps) ((∃ (z : Nat), (z ≤ ps.length ∧ avM (slX 4 ps) (slX 4 ps) ∧ (IntKind.i64 = .i64 ∧ (ps.length : Int) = (ps.length : Int)) ∧ (IntKind.i64 = .i64 ∧ (0 : Int) = totZ ps z) ∧ IntKind.i64 = .i64 ∧ (0 : Int) = (z : Int)) ∧ True) ∧ ∀ (z : Nat), z ≤ ps.length → bsplit (ltB (z : Int) (ps.length : Int))
 (bsplit (DB.db ((0 : Int) ≤ (z : Int) ∧ (z : Int) < (ps.length : Int))) (bsplit (DB.db (inK .i64 (Cut.l (List.getD ps (Int.toNat (z : Int)) Enc.dflt) * (↑(List.length (Cut.ms (List.getD ps (Int.toNat (z : Int)) Enc.dflt))) : Int)))) (bsplit (DB.db (inK .i64 (totZ ps z + Cut.l (List.getD ps (Int.toNat (z : Int)) Enc.dflt) * (↑(List.length (Cut.ms (List.getD ps (Int.toNat (z : Int)) Enc.dflt))) : Int)))) (bsplit (DB.db (inK .i64 ((z : Int) + (1 : Int)))) (∃ (z' : Nat), ((z' ≤ ps.length ∧ ps.length - z' < ps.length - z) ∧ avM (slX 4 ps) (slX 4 ps) ∧ (IntKind.i64 = .i64 ∧ (ps.length : Int) =
 (ps.length : Int)) ∧ (IntKind.i64 = .i64 ∧ totZ ps z + Cut.l (List.getD ps (Int.toNat (z : Int)) Enc.dflt) * (↑(List.length (Cut.ms (List.getD ps (Int.toNat (z : Int)) Enc.dflt))) : Int) = totZ ps z') ∧ IntKind.i64 = .i64 ∧ (z : Int) + (1 : Int) = (z' : Int)) ∧ True) False) False) False) False) (2 = List.length [AV.v (Value.int .i64 (totZ ps z)), AV.v (Value.int .i64 (0 : Int))] ∧ (True ∧ IntKind.i64 = .i64 ∧ totZ ps z = totV ps) ∧ IntKind.i64 = .i64 ∧ (0 : Int) = totE ps))) False := by
  intro hb
  have e1 : (Enc.dflt : Cut) = ⟨0, 0, 0, []⟩ := rfl
  simp only [slX, slN, avM_refl, true_and, and_true, bsel_true, bsel_false, vc_own, bif_or, bif_and, vc_gdb, vc_db, vc_lt, vc_le, vc_ne, vc_eq, vc_tt, Int.toNat_natCast, Nat.zero_add, Nat.zero_le, Nat.sub_zero, agD_bar, agOk_bar, agD_bar', agOk_bar', agD_cut, agOk_cut, agD_cut', agOk_cut', agD_used, agOk_used, agD_used', agOk_used', int_i, Bool.or_true, cond_true, cond_false, okC, okC', deC, deC', okB, deB, okB', deB', okIn, okIn', deI, deI', okU, okU', deU, deU', okBl, deBl, okUl, deUl, deIo, cutsOf_sl, e1]
  refine ⟨fun h => ?_, fun h => ?_⟩
  · have e : cutsE ps != 0 := bne_iff_ne.2 h
    exact ⟨rfl, by unfold totV; rw [e]; rfl, by unfold totE; rw [e]; rfl⟩
  have eV : totV ps = totZ ps ps.length := by unfold totV; rw [h]; rfl
  have eE : totE ps = 0 := by unfold totE; rw [h]; rfl
  refine ⟨⟨0, by omega, rfl, rfl⟩, fun z hz => ⟨fun hlt => ?_, fun hge => ?_⟩⟩
  · have h1 := totZ_le h z hz
    have h2 := piece_tot h (z := z) (by omega)
    have h0 := (cutsE_ok h).1
    exact ⟨⟨by omega, hlt⟩, ⟨by omega, by omega⟩, ⟨by omega, by omega⟩, ⟨by omega, by omega⟩, z + 1, ⟨by omega, by omega⟩, rfl, rfl⟩
  · have e : z = ps.length := by omega
    rw [eV, eE, e]
    exact ⟨rfl, rfl, rfl⟩
def total_t : List AV → Option (List Cond × AV)
  | [x] => some ([.b (slOk Cut x)], .tup 2 (listFn [.i (totV (cutsOf x)), .i (totE (cutsOf x))]))
  | _ => none
theorem total_T : PureT Tryz.prog [] 19 total_t := by
  intro xs ps r h hp
  unfold total_t at h
  split at h
  · rename_i x
    cases h
    exact weaken (ys := [_]) ⟨slE_sound (hp _ List.mem_cons_self), trivial⟩ (pure_of_vc mixed (TbSound.plus tb0_sound cutK_T) (Eq.mp (by kernel_rfl) (total_vc (cutsOf x)) : vcFn Tryz.prog (T0.plus 36 cuts_t) 19 (total_an (cutsOf x)) [slE (cutsOf x)] (.tup 2 (listFn [.i (totV (cutsOf x)), .i (totE (cutsOf x))]))))
  · cases h
end Go.Tz

/- What is cut out of a bar is no longer than the bar; what is left over. -/
namespace Go.Tz
open Go Go.Sx Go.Proofs
set_option maxRecDepth 100000
theorem fillS_sum {k to : Int} (hk : 0 ≤ k) : ∀ {ls : List Int} {at_ : Int} {out : List Int}, ls.sum ≤ max (to - at_) 0 + (fillS k to at_ out ls).2.sum
  | [], at_, out => by simp only [fillS, List.sum_nil]; omega
  | n :: ls, at_, out => by
    unfold fillS
    cases hc : leB (at_ + n) to with
    | false => simp only [cond_false]; omega
    | true =>
      have h := (leB_iff _ _).1 hc
      have ih := fillS_sum (k := k) (to := to) hk (ls := ls) (at_ := at_ + (n + k)) (out := out ++ [at_])
      simp only [cond_true, List.sum_cons]
      omega
def gapSum (gs : List Gap) : Int := (gs.map fun g => max (g.b - g.a) 0).sum
theorem codeF_sum {k : Int} (hk : 0 ≤ k) : ∀ {gs : List Gap} {out ls : List Int}, ls.sum ≤ gapSum gs + (codeF k gs out ls).2.sum
  | [], out, ls => by simp only [codeF, gapSum, List.map_nil, List.sum_nil]; omega
  | g :: gs, out, ls => by
    have h1 := fillS_sum (k := k) (to := g.b) hk (ls := ls) (at_ := g.a) (out := out)
    have h2 := codeF_sum (k := k) hk (gs := gs) (out := (fillS k g.b g.a out ls).1) (ls := (fillS k g.b g.a out ls).2)
    unfold codeF
    unfold gapSum at h2 ⊢
    simp only [List.map_cons, List.sum_cons]
    omega
theorem parts_sum {L : Int} : ∀ {gs : List Gap} {p : Option Gap} {fr : Int}, gapsFrom L p gs = 0 → (match p with | none => fr = 0 | some q => fr = q.b) → 0 ≤ fr → fr ≤ L → gapSum (partsF fr gs L) ≤ L - fr
  | [], p, fr, _, _, h0, h1 => by
    unfold partsF gapSum
    cases hc : ltB fr L with
    | false => simp only [cond_false, List.map_nil, List.sum_nil]; omega
    | true => simp only [cond_true, List.map_cons, List.map_nil, List.sum_cons, List.sum_nil]; omega
  | g :: gs, p, fr, h, hp, h0, h1 => by
    obtain ⟨c1, c2, h⟩ := gapsFrom_cons h
    have hle : fr ≤ g.a := by
      cases p with
      | none => simp only at hp; omega
      | some q =>
        have := c2 q rfl
        simp only at hp
        omega
    have ih := parts_sum (p := some g) (fr := g.b) h rfl (by omega) (by omega)
    unfold partsF
    cases hc : ltB fr g.a with
    | false => simp only [cond_false]; omega
    | true =>
      unfold gapSum at ih ⊢
      simp only [cond_true, List.map_cons, List.sum_cons]
      omega
theorem fits_sum {b : Bar} {ls : List Int} {k : Int} (h : fitsOk b ls k = true) : ls.sum ≤ b.l := by
  unfold fitsOk at h
  rw [Bool.and_eq_true] at h
  obtain ⟨h1, h2, _, _, _⟩ := fitsE_ok (eq_of_beq h.1)
  obtain ⟨g1, g2, _⟩ := barE_gaps h1
  have e : fitsR b ls k = codeF k (partsF 0 b.gs b.l) [] ls := by unfold fitsR gapsOf; exact fitsS_parts _ _ _ _ _ _
  have h3 := codeF_sum (k := k) h2 (gs := partsF 0 b.gs b.l) (out := []) (ls := ls)
  have h4 := parts_sum (p := none) (fr := 0) g1 rfl (Int.le_refl _) (by omega)
  rw [← e, List.isEmpty_iff.1 h.2, List.sum_nil] at h3
  omega
structure FitU (A : List Cut) (B : List Bar) (k : Int) (n : Nat) (u : Used) : Prop where
  bar : 0 ≤ u.bar ∧ u.bar < B.length
  ne : u.ps ≠ []
  ps : ∀ p ∈ u.ps, 0 ≤ p ∧ p < n
  asc : u.ps.Pairwise (· < ·)
  sect : ∀ p ∈ u.ps, sectB (A.getD p.toNat c0) (barAt B u) = true
  ok : fitsOk (barAt B u) (lensL A u.ps) k = true
  at_ : u.at_ = fitsAt (barAt B u) (lensL A u.ps) k
structure Nst (A : List Cut) (B : List Bar) (k : Int) (n : Nat) (us : List Used) : Prop where
  u : ∀ u ∈ us, FitU A B k n u
  perm : (us.flatMap (·.ps)).Perm ((List.range n).map fun i : Nat => (i : Int))
  cnt : ∀ j : Nat, j < B.length → (usedN us (j : Int) : Int) ≤ (B.getD j b0).n
theorem withU_all {A : List Cut} {B : List Bar} {k : Int} {n : Nat} {v u : Used} (h : withU A B k v n = some u) :
    sectB (A.getD n c0) (barAt B v) = true ∧ fitsOk (barAt B v) (lensL A (v.ps ++ [(n : Int)])) k = true ∧ u = ⟨v.bar, v.ps ++ [(n : Int)], fitsAt (barAt B v) (lensL A (v.ps ++ [(n : Int)])) k⟩ := by
  unfold withU at h
  cases hc : sectB (A.getD n c0) (barAt B v) && fitsOk (barAt B v) (lensL A (v.ps ++ [(n : Int)])) k with
  | false => rw [hc] at h; cases h
  | true =>
    rw [hc] at h
    cases h
    rw [Bool.and_eq_true] at hc
    exact ⟨hc.1, hc.2, rfl⟩
theorem FitU.more {A : List Cut} {B : List Bar} {k : Int} {n : Nat} {u : Used} (h : FitU A B k n u) : FitU A B k (n + 1) u :=
  ⟨h.bar, h.ne, fun p hp => by have := h.ps p hp; omega, h.asc, h.sect, h.ok, h.at_⟩
theorem FitU.with_ {A : List Cut} {B : List Bar} {k : Int} {n : Nat} {v u : Used} (hb : 0 ≤ v.bar ∧ v.bar < B.length) (hp : ∀ p ∈ v.ps, 0 ≤ p ∧ p < n) (ha : v.ps.Pairwise (· < ·)) (hs : ∀ p ∈ v.ps, sectB (A.getD p.toNat c0) (barAt B v) = true)
    (hw : withU A B k v n = some u) : FitU A B k (n + 1) u := by
  obtain ⟨h1, h2, rfl⟩ := withU_all hw
  refine ⟨hb, by simp, fun p h => ?_, ?_, fun p h => ?_, h2, rfl⟩
  · rcases List.mem_append.1 h with h | h
    · have := hp p h; omega
    · rw [List.mem_singleton] at h; omega
  · refine List.pairwise_append.2 ⟨ha, List.pairwise_singleton _ _, fun a h1 b h2 => ?_⟩
    rw [List.mem_singleton] at h2
    have := hp a h1
    omega
  · rcases List.mem_append.1 h with h | h
    · exact hs p h
    · rw [List.mem_singleton] at h
      subst h
      exact h1
theorem range_snoc (n : Nat) : ((List.range (n + 1)).map fun i : Nat => (i : Int)) = ((List.range n).map fun i : Nat => (i : Int)) ++ [(n : Int)] := by
  rw [List.range_succ, List.map_append]; rfl
theorem flat_set {us : List Used} {i : Nat} (hi : i < us.length) {u : Used} {p : Int} (hu : u.ps = (us.getD i u0).ps ++ [p]) : ((us.set i u).flatMap (·.ps)).Perm (us.flatMap (·.ps) ++ [p]) := by
  induction us generalizing i with
  | nil => exact absurd hi (Nat.not_lt_zero _)
  | cons v us ih =>
    cases i with
    | zero =>
      rw [List.set_cons_zero, List.flatMap_cons, List.flatMap_cons, hu, List.append_assoc, List.append_assoc]
      exact List.Perm.append_left _ List.perm_append_comm
    | succ i =>
      rw [List.set_cons_succ, List.flatMap_cons, List.flatMap_cons, List.append_assoc]
      exact List.Perm.append_left _ (ih (Nat.lt_of_succ_lt_succ hi) hu)
theorem Nst.nil (A : List Cut) {B : List Bar} (hB : GoodB B) (k : Int) : Nst A B k 0 [] :=
  ⟨fun u h => (by cases h), .refl _, fun j hj => by
    have := (barE_gaps (hB.at hj)).2.2.2.2.2.2.1
    simpa [usedN] using this⟩
theorem mem_getD {us : List Used} {i : Nat} (hi : i < us.length) : us.getD i u0 ∈ us := by
  rw [List.getD_eq_getElem?_getD, List.getElem?_eq_getElem hi]
  exact List.getElem_mem hi
theorem usedN_app' (us : List Used) (u : Used) (k : Int) : usedN (us ++ [u]) k = usedN us k + if u.bar = k then 1 else 0 := by
  unfold usedN
  rw [List.countP_append, List.countP_singleton]
  simp
theorem usedN_set' {us : List Used} {i : Nat} (hi : i < us.length) {u : Used} (hb : u.bar = (us.getD i u0).bar) (k : Int) : usedN (us.set i u) k = usedN us k := by
  induction us generalizing i with
  | nil => exact absurd hi (Nat.not_lt_zero _)
  | cons v us ih =>
    unfold usedN at ih ⊢
    cases i with
    | zero =>
      have hb : u.bar = v.bar := hb
      rw [List.set_cons_zero, List.countP_cons, List.countP_cons, hb]
    | succ i => rw [List.set_cons_succ, List.countP_cons, List.countP_cons, ih (Nat.lt_of_succ_lt_succ hi) hb]
theorem Nst.add {A : List Cut} {B : List Bar} {k : Int} {n : Nat} {us : List Used} (h : Nst A B k n us) {i : Nat} (hi : i < us.length) {u : Used} (hw : withU A B k (us.getD i u0) n = some u) : Nst A B k (n + 1) (us.set i u) := by
  have hf := h.u _ (mem_getD hi)
  obtain ⟨_, _, e⟩ := withU_all hw
  refine ⟨fun v hv => ?_, ?_, fun j hj => ?_⟩
  · rcases List.mem_or_eq_of_mem_set hv with hv | rfl
    · exact (h.u v hv).more
    · exact FitU.with_ hf.bar hf.ps hf.asc hf.sect hw
  · rw [range_snoc]
    exact (flat_set hi (by rw [e])).trans (h.perm.append_right _)
  · rw [usedN_set' hi (by rw [e])]
    exact h.cnt j hj
theorem Nst.new {A : List Cut} {B : List Bar} {k : Int} {n : Nat} {us : List Used} (h : Nst A B k n us) {j : Nat} (hj : j < B.length) {u : Used} (hw : freshU A B k us n j = some u) : Nst A B k (n + 1) (us ++ [u]) := by
  obtain ⟨h1, h2⟩ := freshU_some hw
  obtain ⟨_, _, e⟩ := withU_all h2
  unfold freeB at h1
  have h1 := (ltB_iff _ _).1 h1
  refine ⟨fun v hv => ?_, ?_, fun i hi => ?_⟩
  · rcases List.mem_append.1 hv with hv | hv
    · exact (h.u v hv).more
    · rw [List.mem_singleton] at hv
      subst hv
      exact FitU.with_ (v := ⟨(j : Int), [], []⟩) ⟨by simp only; omega, by simp only; omega⟩ (fun p hp => by cases hp) .nil (fun p hp => by cases hp) h2
  · rw [range_snoc, List.flatMap_append, e]
    exact h.perm.append (.refl _)
  · rw [usedN_app', e]
    have := h.cnt i hi
    split
    · rename_i h3
      have h3 : (j : Int) = (i : Int) := h3
      have : j = i := by omega
      subst this
      omega
    · omega
theorem Fin.nst {A : List Cut} {B : List Bar} {k : Int} {n : Nat} {us us' : List Used} (hf : Fin A B k n us us') : Nst A B k n us → Nst A B k A.length us' := by
  induction hf with
  | done us => exact fun h => h
  | add hn hi hw h ih => exact fun hN => ih (hN.add hi hw)
  | fresh hn hj hw h ih => exact fun hN => ih (hN.new hj hw)
end Go.Tz

/- The waste of a nest. -/
namespace Go.Tz
open Go Go.Sx Go.Proofs
set_option maxRecDepth 100000
def sumB (bs : List Bar) (l : List Used) : Nat → Int
  | 0 => 0
  | z + 1 => sumB bs l z + (barAt bs (usedAt l z)).l
theorem sumL_take (A : List Cut) (ns : List Int) : ∀ y, y ≤ ns.length → sumL A ns y = (lensL A (ns.take y)).sum
  | 0, _ => by simp [sumL, lensL]
  | y + 1, h => by
    unfold sumL
    rw [sumL_take A ns y (by omega), take_snoc (d := 0) (by omega)]
    simp [lensL]
theorem used_snoc {l : List Used} {z : Nat} (h : z < l.length) : l.take (z + 1) = l.take z ++ [usedAt l z] := take_snoc (d := u0) h
theorem sumW_eq (A : List Cut) (bs : List Bar) (l : List Used) : ∀ z, z ≤ l.length → sumW A bs l z = sumB bs l z - (lensL A ((l.take z).flatMap (·.ps))).sum
  | 0, _ => by simp [sumW, sumB, lensL]
  | z + 1, h => by
    unfold sumW sumB
    rw [sumW_eq A bs l z (by omega), used_snoc (by omega), sumL_take _ _ _ (Nat.le_refl _), List.take_length]
    simp only [List.flatMap_append, List.flatMap_cons, List.flatMap_nil, List.append_nil, lensL, List.map_append, List.sum_append]
    omega
theorem sumW_ge {A : List Cut} {bs : List Bar} {k : Int} {n : Nat} {l : List Used} (h : ∀ u ∈ l, FitU A bs k n u) : ∀ z, z ≤ l.length → 0 ≤ sumW A bs l z
  | 0, _ => Int.le_refl _
  | z + 1, hz => by
    have h1 := sumW_ge h z (by omega)
    have h2 := fits_sum (h _ (mem_getD (us := l) (i := z) (by omega))).ok
    unfold sumW
    rw [sumL_take _ _ _ (Nat.le_refl _), List.take_length]
    have e : l.getD z u0 = usedAt l z := rfl
    rw [e] at h2
    omega
theorem lens_all (A : List Cut) : lensL A ((List.range A.length).map fun i : Nat => (i : Int)) = A.map (·.l) := by
  refine List.ext_getElem (by simp [lensL]) fun i h1 h2 => ?_
  have hi : i < A.length := by simpa using h2
  simp only [lensL, List.getElem_map, List.getElem_range, Int.toNat_natCast]
  rw [List.getD_eq_getElem?_getD, List.getElem?_eq_getElem hi]; rfl
theorem sum_one (c : Cut) : (((c.ms.map (one c)).map (·.l)).sum : Int) = c.l * (c.ms.length : Int) := by
  rw [List.map_map]
  have : ((·.l) ∘ one c) = fun _ => c.l := by funext m; rfl
  rw [this]
  generalize c.ms = ms
  induction ms with
  | nil => simp
  | cons m ms ih =>
    rw [List.map_cons, List.sum_cons, ih, List.length_cons]
    rw [show ((ms.length + 1 : Nat) : Int) = (ms.length : Int) + 1 from rfl, Int.mul_add, Int.mul_one, Int.add_comm]
theorem sum_singles (ps : List Cut) : ∀ z, z ≤ ps.length → ((singlesOf (ps.take z)).map (·.l)).sum = totZ ps z
  | 0, _ => by simp [singlesOf, totZ]
  | z + 1, h => by
    rw [singlesOf_snoc ps (by omega), List.map_append, List.sum_append, sum_singles ps z (by omega), sum_one]; rfl
theorem perm_sum {a b : List Int} (h : a.Perm b) : a.sum = b.sum := by
  induction h with
  | nil => rfl
  | cons x h ih => simp only [List.sum_cons]; omega
  | swap x y l => simp only [List.sum_cons]; omega
  | trans h1 h2 i1 i2 => omega
theorem sum_split (ps : List Cut) : ((splitL ps).map (·.l)).sum = totZ ps ps.length := by
  rw [perm_sum ((splitL_perm ps).map (·.l))]
  have := sum_singles ps ps.length (Nat.le_refl _)
  rwa [List.take_length] at this
theorem nst_waste {ps : List Cut} {bs : List Bar} {k : Int} {us : List Used} (h : Nst (splitL ps) bs k (splitL ps).length us) :
    0 ≤ sumW (splitL ps) bs us us.length ∧ sumW (splitL ps) bs us us.length = sumB bs us us.length - totZ ps ps.length := by
  refine ⟨sumW_ge h.u _ (Nat.le_refl _), ?_⟩
  rw [sumW_eq _ _ _ _ (Nat.le_refl _), List.take_length]
  have e : (lensL (splitL ps) (us.flatMap (·.ps))).sum = totZ ps ps.length := by
    rw [← sum_split, ← lens_all]
    unfold lensL
    exact perm_sum (h.perm.map _)
  rw [e]
end Go.Tz
