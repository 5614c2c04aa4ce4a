import Derived.Test.YthbpnknhfokadaaGreatDoorThQk
import Derived.Test.YthbpnknhfokadaaGreatDoorCards
import Derived.Test.YthbpnknhfokadaaGreatDoorTie
import Derived.WalkKit
import Derived.ProofKit
import Derived.OpenShut
import Derived.WideKeyArgs
import Derived.Deep.DeepHandedRow
import Derived.Lib.LaidTab
set_option linter.unusedSimpArgs false
set_option linter.unusedVariables false
namespace Go.Proofs.YthbpnknhfokadaaGreatDoor.surdMultiplies
open Go Go.ChangeShapes Go.WideShapes Go.ChangeAt Go.RowKit
theorem w1 : OpenClaim.wfByText (OpenSpec.ofChange Rows.surdMultipliesSpec) Rows.surdMultipliesRow = true := by kernel_rfl
theorem w3 : true = Tryz.pinned.checked.prog.looks [] := by kernel_rfl
theorem w4 : false = Rows.surdMultipliesRow.goesBy Tryz.pinned.checked.prog := by kernel_rfl
theorem IU : Tryz.prog.wantsStandIn 24 = false := by kernel_rfl
theorem card : Rows.SurdMultipliesCardSaid :=
 Claim7.holds_tied_plain_at .later [] _ _ _ _ said (fun _ h => by cases h) w1 (fun _ h => by cases h) surdMultiplies_row_tie rfl ⟨rfl, rfl⟩ (by kernel_rfl) rfl (by
 intro f fn hf hfn
 obtain rfl : f = 4 := Option.some.inj (named.symm.trans hf) |>.symm
 obtain rfl : fn = Tryz.f4 := (Option.some.inj (Tryz.func4.symm.trans hfn)).symm
 refine ⟨w3, fun j t ht => ?_⟩
 rw [Tryz.params4] at ht
 have h : t = 24 ∨ t = 24 ∨ t = 24 := by
  match j, ht with
  | 0, ht => exact .inl (Option.some.inj ht).symm
  | 1, ht => exact .inr (.inl (Option.some.inj ht).symm)
  | 2, ht => exact .inr (.inr (Option.some.inj ht).symm)
  | j + 3, ht => simp at ht
 rcases h with rfl | rfl | rfl
 ·exact IU
 ·exact IU
 ·exact IU) w4
end Go.Proofs.YthbpnknhfokadaaGreatDoor.surdMultiplies

namespace Go.Te
open Go Go.Sx Go.Proofs Go.Ar
set_option maxRecDepth 100000
set_option maxHeartbeats 4000000
theorem Lq {R : Nat} {s : List Tm} (h : gS R s) (h0 : s.length ≠ 0) (h1 : ¬(s.length = 1 ∧ (s.getD 0 zV.dflt).q = 1)) : (s.getD (s.length - 1) zV.dflt).q ≠ 1 := fun e => by
 have g : ∀ i, (hi : i < s.length) → s.getD i zV.dflt = s[i] := fun i hi => by rw [List.getD_eq_getElem?_getD, List.getElem?_eq_getElem hi]; rfl
 by_cases hl : s.length = 1
 ·rw [hl] at e
  exact h1 ⟨hl, e⟩
 ·rw [g _ (by omega)] at e
  have a := (List.pairwise_iff_getElem.1 h.le) 0 (s.length - 1) (by omega) (by omega) (by omega)
  have u := (List.pairwise_iff_getElem.1 h.unr) 0 (s.length - 1) (by omega) (by omega) (by omega)
  obtain ⟨r, e1, r0, _⟩ := h.nat s[0] (List.getElem_mem _)
  unfold Kn at a
  unfold unr at u
  rw [e, e1] at a
  rw [e, e1, ww] at u
  have hr : r ≤ 1 := by exact Rat.natCast_le_natCast.1 a
  have : r = 1 := by omega
  subst this
  exact u 1 (by decide +kernel)
theorem iC (p q : Rat) : Zs (AV.xl true 2 1 (Sx.rowAt [zw [AV.str (zT p), AV.str (zT q)]])) = ([⟨p, q⟩] : List Tm) := by
 show ([⟨ze (zT p), ze (zT q)⟩] : List Tm) = _
 simp only [zm]
theorem K1 (p q : Rat) : zf Tm (AV.xl true 2 1 (Sx.rowAt [zw [AV.str (zT p), AV.str (zT q)]])) = true := by
 unfold zf
 rw [Bool.and_eq_true]
 refine ⟨rfl, un fun i hi => ?_⟩
 match i, hi with
 | 0, _ => exact y7.ok (⟨p, q⟩ : Tm)
noncomputable def IH (G : List (Nat × Obj)) : Tb := ((((((WS G).plus 11 pk).plus 22 Nj).plus 20 TY).plus 23 Sw).plus 15 pI).body Tryz.prog [(14, .auto)]
theorem Qf {G : List (Nat × Obj)} (hG : WB G) : zz Tryz.prog (IH G) := zz.body mixed (zz.plus (zz.plus (zz.plus (zz.plus (zz.plus zQ (Kc hG.tab)) (Is hG.tab)) (pz hG.tab)) (N3 hG.tab)) (KI hG)) _
theorem tq (G : List (Nat × Obj)) (x : Sm) (hx : Vd x) :
 let q1 := (Zn (AV.agg 8 fun (i : Nat) => zV.enc x (0 + i))); let q5 := (Zl (YW q1)); let q4 := (lN q5); let q3 := (AV.xl false 2 q4 fun i j => zV.enc (gD (Zl (YW (Zn (AV.agg 8 fun (i : Nat) => zV.enc x (0 + i))))) i zV.dflt) j); let q2 := (zf Tm q3); let q6 := (Zs q3); let q7 := (gD q6 0 zV.dflt); let q10 := (if lN q6 = 0 then [(48 : UInt8)] else if lN q6 = 1 ∧ Tm.q q7 = (1 : Rat) then zT (Tm.c q7) else []); let q9 := (q10 == bA #[]); let q8 := (!zr true q9 || zr true q9); let q13 := (↑q4 :
 Int); let q12 := (bif q10 == bA #[] then zg iZ q13 else false); let q11 := (!zr true q12 || zr true q12); let q14 := (q13 - iO); let q15 := (Tm.q (gD q5 (Int.toNat q14) zV.dflt)); let q16 := (ByteArray.data (ByteArray.mk #[(49 : UInt8)])); let q18 := (Array.toList q16); let q17 := (AV.xl true 2 1 (Sx.rowAt [zw [AV.str q10, AV.str q18]])); let q19 := (Zs q17); let q20 := (AV.xl false 2 (lN (Zl q19)) fun i j => let q21 := (Zs (AV.xl false 2 (lN (Zl (YW (Zn (AV.agg 8 fun (i : Nat) => zV.enc x (0 +
 i)))))) fun i j => zV.enc (gD (Zl (YW (Zn (AV.agg 8 fun (i : Nat) => zV.enc x (0 + i))))) i zV.dflt) j)); let q22 := (gD q21 0 zV.dflt); zV.enc (gD (Zl (Zs (AV.xl true 2 1 (Sx.rowAt [zw [AV.str (if lN q21 = 0 then [(48 : UInt8)] else if lN q21 = 1 ∧ Tm.q q22 = (1 : Rat) then zT (Tm.c q22) else []), AV.str q18]])))) i zV.dflt) j); Zw [AV.agg 8 (zV.enc x)] → Vd q1 ∧ bF q2 (Y3 q6 ∧ zZ (!decide (lN q6 = 0 ∨ lN q6 = 1 ∧ Tm.q q7 = (1 : Rat))) (bF q8 (bF q8 (bF (!q10 == Array.toList (ByteArray.data
 (ByteArray.mk #[])) || zr true q9) (bF q11 (bF q11 (bF (!zr true q12 || dK q14) (bF q11 (bF q11 (bF (!zr true q12 || DB.db (iZ ≤ q13 - iO ∧ q13 - iO < q13)) (bF q11 (bF q11 (bF q11 (bF ((!bif q10 == bA #[] then zg iZ q13 else false) || zr true q12) (bF ((!bif bif q10 == bA #[] then zg iZ q13 else false then !zT q15 == Array.toList q16 else false) || zr true (bif bif q10 == Array.toList (ByteArray.data
 (ByteArray.mk #[])) then zg iZ q13 else false then !zT q15 == Array.toList q16 else false)) ((bif bif bif q10 == bA #[] then zg iZ q13 else false then !zT q15 == Array.toList q16 else false then true else false) = true))))))))))))))) (bF (zf Tm q17) (XL q19 ∧ bF (zf Tm q20) (bF q2 (NQ (Zs q20) q6 ∧ bF ((!bif bif iZ == iZ then bif iZ == iZ then iZ == iZ else false else false then leB q13
 iO else false) || zr true (bif bif iZ == iZ then bif iZ == iZ then iZ == iZ else false else false then leB q13 iO else false)) ((bif bif bif iZ == iZ then bif iZ == iZ then iZ == iZ else false else false then leB q13 iO else false then true else false) = true)))))) := by
 delta bF dK bA lN gD iZ iO
 dsimp only
 intro hb
 simp only [Nat.zero_add]
 simp only [sS, YY, yU, zm, yZ, yI, xh, Yl, Xr, Yb, Xa, Y6, Mq, py, Pn, Rz, dS]
 have f := Tw hx
 have oR : 255 ≤ RM := by decide
 have ok := Uf f oR (by decide) (by decide)
 generalize Zl (YW x) = s at *
 refine ⟨hx, ok, zX.2 ⟨fun c => ?_, fun c => ?_⟩⟩
 ·rw [Bool.not_eq_true', decide_eq_false_iff_not] at c
  have c0 : s.length ≠ 0 := fun e => c (.inl e)
  have c1 : ¬(s.length = 1 ∧ (s.getD 0 zV.dflt).q = 1) := fun e => c (.inr e)
  have hl := f.len
  rw [if_neg c0, if_neg c1, vg, show ((s.length : Int) - 1).toNat = s.length - 1 from by omega, decide_eq_false (Lq f.g c0 c1), show zg 0 (s.length : Int) = true from (zq _ _).2 (by omega)]
  exact ⟨fun _ => by simp only [yP]; omega, fun _ => by omega, rfl⟩
 ·have c : s.length = 0 ∨ s.length = 1 ∧ (s.getD 0 zV.dflt).q = 1 := by rw [Bool.not_eq_false', decide_eq_true_iff] at c; exact c
  obtain ⟨v, hv, hn, hbc, hp, he⟩ : ∃ v : Rat, (if s.length = 0 then [48] else if s.length = 1 ∧ (s.getD 0 zV.dflt).q = 1 then zT (s.getD 0 zV.dflt).c else []) = zT v ∧ (∀ t ∈ [(⟨v, 1⟩ : Tm)], ZV 255 t) ∧ (∀ t ∈ [(⟨v, 1⟩ : Tm)], bq 60 t.c) ∧ pg L0 B0 [⟨v, 1⟩] ∧ ∀ f, VR f → ev f [(⟨v, 1⟩ : Tm)] = ev f s := by
   have hn : ∀ v, ∀ t ∈ [(⟨v, 1⟩ : Tm)], ZV 255 t := fun v t ht => by
    rw [List.mem_singleton.1 ht]
    exact ⟨1, rfl, by decide, by decide⟩
   by_cases h0 : s.length = 0
   ·obtain rfl := List.eq_nil_of_length_eq_zero h0
    refine ⟨0, by decide +kernel, hn 0, fun t ht => ?_, ?_, fun f _ => ?_⟩
    ·rw [List.mem_singleton.1 ht]; exact ⟨by decide +kernel, by decide +kernel⟩
    ·refine (RZ (R := 255) (D := 0) (hn 0) fun t ht => ⟨0, ?_, by decide⟩).mono (by decide)
     rw [List.mem_singleton.1 ht]
     exact Rat.zero_mul _
    ·rw [ZL, yr, Rat.zero_mul, Rat.zero_add]
   ·obtain ⟨h1, h2⟩ := c.resolve_left h0
    obtain ⟨t, rfl⟩ : ∃ t, s = [t] := List.length_eq_one_iff.1 h1
    have e : [(⟨t.c, 1⟩ : Tm)] = [t] := by
     have h2 : t.q = 1 := h2
     cases t
     simp only at h2 ⊢
     rw [h2]
    refine ⟨t.c, by rw [if_neg h0, if_pos ⟨h1, h2⟩]; rfl, hn _, ?_, ?_, fun f _ => ?_⟩
    ·rw [e]; exact TL f oR (by decide)
    ·rw [e]; exact f.pg
    ·rw [e]
  have hi : inT 255 [(⟨v, 1⟩ : Tm)] := fun t ht => WM (hn t ht)
  obtain ⟨g1, g2, g3⟩ := Yk (by decide) hi
  have own : fS 255 1 B0 (Zl [⟨v, 1⟩]) := ⟨g1, g2, vC g1.nat g1.unr g3 hp⟩
  rw [hv, ← Kf, iC, K1]
  refine zX.2 ⟨fun _ => ⟨QB (B := B0) (show 1 ≤ 256 by decide) (Nat.le_trans g2 (show 1 ≤ 16 by decide)) (fun t ht => Y5 (hn t ht) oR) hbc hp (by decide), (I3 own f oR (by decide) (by decide) (by decide) fun k hk => by rw [g3 k hk, he k hk]).1, ?_⟩, fun c => by cases c⟩
  rw [show leB (s.length : Int) 1 = true from (Zz _ _).2 (by omega)]
  rfl
theorem ss {G : List (Nat × Obj)} (hG : WB G) (x : Sm) (hx : Vd x) : zt Tryz.prog G 7 [YG x] (.b true) :=
 zW (T := IH G) (an := .auto) mixed (Qf hG) (Eq.mp (by kernel_rfl) (tq G x hx))
end Go.Te

namespace Go.Proofs.YthbpnknhfokadaaGreatDoor.surdValues
open Go Go.ChangeShapes Go.WideShapes Go.ChangeAt Go.RowKit
theorem own : ownKnob Tryz.prog.godebug = none := by kernel_rfl
theorem QU : Tryz.prog.globalNamed "internal/strconv.uint64pow10" = some 1 := by kernel_rfl
theorem laidOut : laidOutB Tryz.prog = true := by kernel_rfl
theorem mZ : Tryz.prog.readableRec 24 = true := by kernel_rfl
theorem NS : (24 : TypeId) < Tryz.prog.types.size := of_decide_eq_true (by kernel_rfl)
theorem XO {W W' : World} (h : Below W.heap.size W W') (may : MemPlace → Prop) : W.keptBut W' may := by
 refine ⟨h.os, h.output, fun i hi => ?_⟩
 rw [h.block i hi]
 cases hh : W.heap[i]? with
 | none => rfl
 | some o => cases o <;> simp
theorem Xo {W W' : World} (h : Below W.heap.size W W') {p : MemPlace} (hp : p.block < W.heap.size) : W.sameAt W' p := by
 cases p with
 | cell b off =>
  show W'.cell? _ = W.cell? _
  exact World.cell?_of_block (h.block b hp)
 | map b => exact h.block b hp
theorem Vz {H : Type} {enc : TypeId × Value → H} {P : Program} {f : Func} {s : ChangeSpec} {apart fresh handsOn again : Bool} {W W' : World} {args : Array Value} {v : Value} {ds gs : List (DataW H)} {before pa pv : List MemPlace}
  (hW : DataW.Whole enc P f.params.toList s.vars apart W args.toList ds gs before)
  (hres : ∀ (b : Nat) (sp : Nat → Bool) (hd : Bool), DataW.TrodAll enc P W' b sp hd f.resultTypes.toList (v.resultList f.resultTypes.size) (s.fn H (ds ++ gs)).results [])
  (hargs : ∀ sp : Nat → Bool, (∀ p ∈ before, sp p.block = true) → DataW.TrodAll enc P W' 0 sp true f.params.toList args.toList (s.fn H (ds ++ gs)).args pa)
  (hvars : ∀ sp : Nat → Bool, (∀ p ∈ before, sp p.block = true) → DataW.TrodVars enc P W' sp s.vars (s.fn H (ds ++ gs)).vars pv)
  (hps : before = pa ++ pv) (hb : Below W.heap.size W W')
  (hok : ∀ (j : Nat) (t : TypeId) (r : Value), f.resultTypes[j]? = some t → (v.resultList f.resultTypes.size)[j]? = some r → Value.okWide P W' .any 0 t r) :
  s.post enc P f apart fresh handsOn again W args v W' := by
 have hlt : ∀ p ∈ before, p.block < W.heap.size := fun p hp => hW.lt p hp
 have hold : ∀ p ∈ before, (fun b => decide (b < W.heap.size)) p.block = true := fun p hp => by simpa using hlt p hp
 refine ⟨ds, gs, before, [], pa, pv, hW, hres _ _ _, hargs _ hold, hvars _ hold, XO hb _, fun _ => ?_⟩
 obtain ⟨_, _, _, _, _, hz, hn⟩ := hW
 refine ⟨hok, _, _, ([] ++ pa) ++ pv, ⟨[] ++ pa, pv, trodAll_append (hargs _ (fun _ _ => rfl)) (hres _ _ _), hvars _ (fun _ _ => rfl), rfl, ?_, ?_⟩, ?_⟩
 ·intro b off hp
  have hp' : MemPlace.cell b off ∈ before := by rw [hps]; simpa using hp
  have e : W'.frozen? ⟨b, off, none⟩ = W.frozen? ⟨b, off, none⟩ := by
   unfold World.frozen?
   rw [hb.block b (hlt _ hp')]
  rw [e]
  exact hz b off hp'
 ·intro ha
  have := hn ha
  rw [hps] at this
  simpa using this
 ·intro p hp _
  rw [hps]
  simpa using hp
theorem table {W : World} (h : laidMetH Tryz.prog Rows.surdValuesRow.laid W) : ∃ cs t fr, W.heap[1]? = some (.cells cs t fr) ∧ cs = (Lib.pow10Tab.map fun z => Value.int .u64 z).toArray := by
 have h' : laidMet Tryz.prog (("math/bits.deBruijn32tab", Rows.laid_math_bits_deBruijn32tab) :: ("math/bits.deBruijn64tab", Rows.laid_math_bits_deBruijn64tab) :: ("internal/strconv.uint64pow10", Rows.laid_internal_strconv_uint64pow10) :: [("unicode/utf8.acceptRanges", Rows.laid_unicode_utf8_acceptRanges), ("strconv.ErrRange", Rows.laid_strconv_ErrRange), ("strconv.ErrSyntax", Rows.laid_strconv_ErrSyntax), ("kingpost/root.primes", Rows.laid_kingpost_root_primes), ("kingpost/surd.signPlaces", Rows.laid_kingpost_surd_signPlaces), ("unicode/utf8.first", Rows.laid_unicode_utf8_first)]) W := h
 obtain ⟨ps, ⟨_, _, _, _, _, _, _, _, _, _, ⟨_, _, _, _, _, _, _, _, _, _, ⟨g, t, cs, fuel, p, q, hg, hty, hvar, hd, _⟩, _⟩, _⟩, _⟩ := h'
 obtain rfl := Option.some.inj (QU.symm.trans hg)
 have hcs : cs.toList = Lib.pow10Tab.map fun z => Value.int .u64 z := by
  obtain rfl : t = 216 := Option.some.inj ((show (Tryz.prog.globals[1]?).map (·.type) = some 216 by kernel_rfl).symm.trans hty) |>.symm
  exact Lib.cells_of_tab (n := 20) (e := 160) (zs := Lib.pow10Tab) (by kernel_rfl) (by kernel_rfl) (by kernel_rfl) (by kernel_rfl) hd
 unfold World.var? at hvar
 rw [QU] at hvar
 simp only [Option.bind_some] at hvar
 split at hvar
 ·rename_i cs' t' fr hh
  cases hvar
  exact ⟨_, _, _, hh, by rw [← hcs]⟩
 ·cases hvar
theorem RU : Tryz.prog.globalNamed "kingpost/root.primes" = some 2 := by kernel_rfl
theorem Qo {W : World} (h : laidMetH Tryz.prog Rows.surdValuesRow.laid W) : ∃ t fr, W.heap[2]? = some (.cells Te.zO t fr) := by
 have h' : laidMet Tryz.prog (("math/bits.deBruijn32tab", Rows.laid_math_bits_deBruijn32tab) :: ("math/bits.deBruijn64tab", Rows.laid_math_bits_deBruijn64tab) :: ("internal/strconv.uint64pow10", Rows.laid_internal_strconv_uint64pow10) :: [("unicode/utf8.acceptRanges", Rows.laid_unicode_utf8_acceptRanges), ("strconv.ErrRange", Rows.laid_strconv_ErrRange), ("strconv.ErrSyntax", Rows.laid_strconv_ErrSyntax), ("kingpost/root.primes", Rows.laid_kingpost_root_primes), ("kingpost/surd.signPlaces", Rows.laid_kingpost_surd_signPlaces), ("unicode/utf8.first", Rows.laid_unicode_utf8_first)]) W := h
 obtain ⟨ps, ⟨_, _, _, _, _, _, _, _, _, _, ⟨_, _, _, _, _, _, _, _, _, _, ⟨_, _, _, _, _, _, _, _, _, _, ⟨_, _, _, _, _, _, _, _, _, _, ⟨_, _, _, _, _, _, _, _, _, _, ⟨_, _, _, _, _, _, _, _, _, _, ⟨g, t, cs, fuel, p, q, hg, hty, hvar, hd, _⟩, _⟩, _⟩, _⟩, _⟩, _⟩, _⟩, _⟩ := h'
 obtain rfl := Option.some.inj (RU.symm.trans hg)
 have hcs : cs.toList = Te.zO.toList := by
  obtain rfl : t = 218 := Option.some.inj ((show (Tryz.prog.globals[2]?).map (·.type) = some 218 by kernel_rfl).symm.trans hty) |>.symm
  exact (Te.Wg (n := 25) (e := 9) (zs := Te.SO) Tryz.underlying218 Tryz.underlying9 (by kernel_rfl) (by kernel_rfl) hd).trans Te.U5
 unfold World.var? at hvar
 rw [RU] at hvar
 simp only [Option.bind_some] at hvar
 split at hvar
 ·rename_i cs' t' fr hh
  cases hvar
  exact ⟨_, _, by rw [← Array.toList_inj.1 hcs]; exact hh⟩
 ·cases hvar
theorem rN : Tryz.prog.globalNamed "kingpost/surd.signPlaces" = some 0 := by kernel_rfl
theorem Od {W : World} (h : laidMetH Tryz.prog Rows.surdValuesRow.laid W) : ∃ t fr, W.heap[0]? = some (.cells Te.Zq t fr) := by
 have h' : laidMet Tryz.prog (("math/bits.deBruijn32tab", Rows.laid_math_bits_deBruijn32tab) :: ("math/bits.deBruijn64tab", Rows.laid_math_bits_deBruijn64tab) :: ("internal/strconv.uint64pow10", Rows.laid_internal_strconv_uint64pow10) :: [("unicode/utf8.acceptRanges", Rows.laid_unicode_utf8_acceptRanges), ("strconv.ErrRange", Rows.laid_strconv_ErrRange), ("strconv.ErrSyntax", Rows.laid_strconv_ErrSyntax), ("kingpost/root.primes", Rows.laid_kingpost_root_primes), ("kingpost/surd.signPlaces", Rows.laid_kingpost_surd_signPlaces), ("unicode/utf8.first", Rows.laid_unicode_utf8_first)]) W := h
 obtain ⟨ps, ⟨_, _, _, _, _, _, _, _, _, _, ⟨_, _, _, _, _, _, _, _, _, _, ⟨_, _, _, _, _, _, _, _, _, _, ⟨_, _, _, _, _, _, _, _, _, _, ⟨_, _, _, _, _, _, _, _, _, _, ⟨_, _, _, _, _, _, _, _, _, _, ⟨_, _, _, _, _, _, _, _, _, _, ⟨g, t, cs, fuel, p, q, hg, hty, hvar, hd, _⟩, _⟩, _⟩, _⟩, _⟩, _⟩, _⟩, _⟩, _⟩ := h'
 obtain rfl := Option.some.inj (rN.symm.trans hg)
 have hcs : cs.toList = [4, 16, 64].map fun z => Value.int .i64 z := by
  obtain rfl : t = 115 := Option.some.inj ((show (Tryz.prog.globals[0]?).map (·.type) = some 115 by kernel_rfl).symm.trans hty) |>.symm
  exact Lib.cells_of_tab (n := 3) (e := 3) (zs := [4, 16, 64]) (by kernel_rfl) (by kernel_rfl) (by kernel_rfl) (by kernel_rfl) hd
 have hcs2 : cs = Te.Zq := Array.toList_inj.1 hcs
 unfold World.var? at hvar
 rw [rN] at hvar
 simp only [Option.bind_some] at hvar
 split at hvar
 ·rename_i cs' t' fr hh
  cases hvar
  exact ⟨_, _, by rw [← hcs2]; exact hh⟩
 ·cases hvar
set_option maxRecDepth 100000 in
set_option maxHeartbeats 1000000 in
theorem tt (H : Type) (enc : TypeId × Value → H) (W : World) (base : Nat) (args : Array Value) (ds gs : List (DataW H)) (before : List MemPlace)
  (hval : ∀ (j : Nat) t v, Tryz.f7.params[j]? = some t → args[j]? = some v → Value.okWide Tryz.prog W .any base t v)
  (hW : DataW.Whole enc Tryz.prog Tryz.f7.params.toList Rows.surdValuesSpec.vars false W args.toList ds gs before) (hL : laidMetH Tryz.prog Rows.surdValuesRow.laid W) :
  Calls Tryz.prog 7 args W fun e W' => ∃ v, e = .returned v ∧ Rows.surdValuesSpec.post enc Tryz.prog Tryz.f7 false true false false W args v W' := by
 have hW' := hW
 have hlt := hW.lt
 obtain ⟨p, q, hA0, hV, rfl, hfz, hnd⟩ := hW
 have hA : DataW.TrodAll enc Tryz.prog W 0 (fun _ => true) true Tryz.f7.params.toList args.toList ds p := hA0
 rw [Tryz.params7] at hA hval
 obtain ⟨v0, vs0, d0, ds0, p0, q0, hargs, rfl, rfl, h0, r0⟩ := trodAll_cons hA
 obtain ⟨rfl, rfl, rfl⟩ := trodAll_nil r0
 obtain rfl : args = #[v0] := by cases args; simp_all
 obtain ⟨rfl, rfl⟩ := trodVars_none hV
 clear hA0
 simp only [List.append_nil] at hW' hlt
 obtain ⟨as0, rfl, hs0⟩ := okWide_struct Tryz.underlying24 (hval 0 24 v0 rfl rfl)
 obtain ⟨b0, hb0, hi0⟩ := Te.ux h0 (hs0.trans Te.vX)
 obtain ⟨cs, t, fr, hh, hcs⟩ := table hL
 obtain ⟨t1, fr1, hh1⟩ := Qo hL
 obtain ⟨t2, fr2, hh2⟩ := Od hL
 have hG : Te.WB [(2, Obj.cells Te.zO t1 fr1), (0, Obj.cells Te.Zq t2 fr2), (1, Obj.cells cs t fr)] := ⟨⟨⟨1, t, fr, QU, by rw [hcs]; exact List.mem_cons_of_mem _ (List.mem_cons_of_mem _ List.mem_cons_self)⟩, t1, fr1, _, rfl⟩, t1, fr1, t2, fr2, _, rfl⟩
 have lt : ∀ {k : Nat} {o : Obj}, W.heap[k]? = some o → k < W.heap.size := fun {k o} h => by
  rcases Nat.lt_or_ge k W.heap.size with h' | h'
  ·exact h'
  ·rw [Array.getElem?_eq_none h'] at h; cases h
 have walk := (Te.ss hG b0 hi0).2 W (Te.Hz W) [.agg as0] (fun b h => h) (fun b o hb => by
  rcases List.mem_cons.1 hb with hb | hb
  ·cases hb; exact ⟨lt hh1, hh1⟩
  rcases List.mem_cons.1 hb with hb | hb
  ·cases hb; exact ⟨lt hh2, hh2⟩
  rw [List.mem_singleton] at hb
  cases hb; exact ⟨lt hh, hh⟩) ⟨hb0, trivial⟩
 refine walk.mono fun e W' ⟨hb, rv, he, hr⟩ => ?_
 obtain rfl := Sx.ZS hr
 subst he
 have again : ∀ {t : TypeId} (hrec : Tryz.prog.readableRec t = true) (hrow : t < Tryz.prog.types.size) {v : Value} {d : DataW H} {ps : List MemPlace}, DataW.Trod enc Tryz.prog W 0 (fun _ => true) true t v d ps → (∀ p ∈ ps, p.block < W.heap.size) → ∀ sp : Nat → Bool, (∀ p ∈ ps, sp p.block = true) →
   DataW.Trod enc Tryz.prog W' 0 sp true t v d ps := fun hrec hrow _ _ _ h hp sp hs => Go.WideElems.Trod_stays laidOut hrec hrow h (fun p hp' => Xo hb.toBelow (hp p hp')) hs
 refine ⟨_, rfl, Vz (pa := p0 ++ ([])) (pv := []) hW' (fun _ _ _ => trodAll_cons_mk (shut_bool Tryz.underlying4 _) trodAll_mk0) (fun sp hsp => ?_) (fun _ _ => rfl) (by simp) hb.toBelow (ok_one (by kernel_rfl) rfl (okWide_bool_mk Tryz.underlying4 _))⟩
 rw [Tryz.params7]
 exact trodAll_cons_mk (again mZ NS h0 (fun p hp => hlt p (by simp [hp])) sp fun p hp => hsp p (by simp [hp])) trodAll_mk0
def nV : List Int := [0, 1, 28, 2, 29, 14, 24, 3, 30, 22, 20, 15, 25, 17, 4, 8, 31, 27, 13, 23, 21, 19, 16, 7, 26, 12, 18, 6, 11, 5, 10, 9]
def mt : List Int := [0, 1, 56, 2, 57, 49, 28, 3, 61, 58, 42, 50, 38, 29, 17, 4, 62, 47, 59, 36, 45, 43, 51, 22, 53, 39, 33, 30, 24, 18, 12, 5, 63, 55, 48, 27, 60, 41, 37, 16, 46, 35, 44, 21, 52, 32, 23, 11, 54, 26, 40, 15, 34, 20, 31, 10, 25, 14, 19, 9, 13, 8, 7, 6]
def first : List Int := Go.Pinned.utf8FirstZ.map fun (n : Nat) => (n : Int)
def Qb : List Int := [128, 191, 160, 191, 128, 159, 144, 191, 128, 143] ++ List.replicate 22 0
def put (cs : Array Value) : Obj → Obj
 | .cells _ t frozen => .cells cs t frozen
 | o => o
def bytesOf (l : List Int) : Array Value := (l.map fun z => Value.int .u8 z).toArray
noncomputable def tX (h : Array Obj) : Array Obj :=
 ((((((((((h.modify 2 (put Te.zO)).modify 0 (put Te.Zq)).modify 1 (put (Lib.pow10Tab.map fun z => Value.int .u64 z).toArray)).modify 4 (put (bytesOf nV))).modify 5 (put (bytesOf mt))).modify 9 (put (bytesOf Qb))).modify 8 (put (bytesOf first))).modify
  7 (put #[.iface 275 (.pointer (some ⟨h.size, 0, none⟩))])).modify 6 (put #[.iface 275 (.pointer (some ⟨h.size + 1, 0, none⟩))])).push
  (.cells #[.string ⟨#[118, 97, 108, 117, 101, 32, 111, 117, 116, 32, 111, 102, 32, 114, 97, 110, 103, 101]⟩] 277 (0, 0))).push (.cells #[.string ⟨#[105, 110, 118, 97, 108, 105, 100, 32, 115, 121, 110, 116, 97, 120]⟩] 277 (0, 0))
noncomputable def Y7 (os : Os) : World := { World.holding Tryz.prog os ⟨#[], #[], []⟩ with heap := tX (World.holding Tryz.prog os ⟨#[], #[], []⟩).heap }
abbrev wA : Array Value := #[.agg #[.int .i8 0, .int .i8 0, .int .i8 0, .int .u8 0, .int .u8 0, .int .u8 0, .int .u8 0, .int .u8 0]]
theorem uk (os : Os) : laidMet Tryz.prog Rows.surdValuesRow.laid ((Y7 os).forCall (fun _ _ => 0) ⟨#[], wA, []⟩).memory :=
 laidMet_of_run' 8 (by kernel_rfl) (by kernel_rfl)
theorem reads (os : Os) {H : Type} (enc : TypeId × Value → H) : ∃ places, DataW.whole enc Tryz.prog ((Y7 os).forCall (fun _ _ => 0) ⟨#[], wA, []⟩).memory Tryz.f7.params.toList Rows.surdValuesSpec.vars false wA.toList 8 = some ([.agg [.lit (.int .i8 0), .lit (.int .i8 0), .lit (.int .i8 0), .lit (.int .u8 0), .lit (.int .u8 0), .lit (.int .u8 0), .lit (.int .u8 0), .lit (.int .u8 0)]], [], places) :=
 ⟨[], by kernel_rfl⟩
set_option maxRecDepth 100000 in
theorem lifted (os : Os) (started : os.Started) (H : Type) (enc : TypeId × Value → H) (F : Stop.Interp) :
  ReturnsInHanded {} Tryz.checked os 7 .any ((OpenSpec.ofChange Rows.surdValuesSpec).preRow enc Tryz.prog Tryz.f7 Rows.surdValuesRow.domain false Rows.surdValuesRow.laid) (((OpenSpec.ofChange Rows.surdValuesSpec).at F).post enc Tryz.prog Tryz.f7 false true false false) := by
 obtain ⟨places, hx⟩ := reads os enc
 refine returnsInHanded_of_row (C := Tryz.checked) (s := OpenSpec.ofChange Rows.surdValuesSpec) own started (by kernel_rfl) Tryz.func7
  (witness_row_at (enc := enc) (C := Tryz.checked) false (Y7 os) wA rfl (by kernel_rfl) (by kernel_rfl) (by kernel_rfl)
   (OpenSpec.preRow_of_cond 8 hx (by kernel_rfl) (fun k hk => by cases hk) (by kernel_rfl) (uk os))) ?_
 intro W base args ds gs before hval hW _ _ _ hL _ _
 exact tt H enc W base args ds gs before hval hW hL
end Go.Proofs.YthbpnknhfokadaaGreatDoor.surdValues

namespace Go.Proofs.YthbpnknhfokadaaGreatDoor.surdValues
open Go Go.ChangeShapes Go.WideShapes Go.ChangeAt Go.RowKit
theorem Hf : (Rows.surdValuesRow.inPlace == Tryz.pinned.checked.prog.inPlace 7) = true := by kernel_rfl
theorem HG : (Rows.surdValuesRow.unfollowed == Tryz.pinned.checked.prog.unfollowed 7) = true := by kernel_rfl
theorem Hm : (Rows.surdValuesRow.recurses == Tryz.pinned.checked.prog.recurses 7) = true := by kernel_rfl
theorem HE : (Rows.surdValuesRow.named == Tryz.pinned.checked.prog.varsNamed 7) = true := by kernel_rfl
theorem closed : joinedFacts Tryz.pinned.checked.prog 7 Tryz.f7 (OpenSpec.ofChange Rows.surdValuesSpec).bare Rows.surdValuesRow = true := by
 unfold joinedFacts
 rw [Hf, HG, Hm, HE]
 kernel_rfl
theorem wrap : Tryz.f7.isWrapper Tryz.pinned.checked.prog Rows.surdValuesRow.wrapper Rows.surdValuesRow.mainSum := by
 unfold Func.isWrapper; first | (rw [if_pos (by decide +kernel)]; kernel_rfl) | (rw [if_neg (by decide +kernel)]; exact ⟨rfl, rfl⟩)
theorem lH : Tryz.f7.isInstance Tryz.pinned.checked.prog Rows.surdValuesRow.origin Rows.surdValuesRow.targs := of_decide_eq_true (by kernel_rfl)
theorem named : Tryz.pinned.checked.prog.funcNamed Rows.surdValuesRow.func = some 7 := by kernel_rfl
theorem said : Rows.SurdValuesSaid :=
 OpenClaim.holds_of_cond 7 Tryz.f7 rfl rfl rfl rfl rfl rfl rfl ⟨rfl, rfl, rfl, rfl, rfl⟩ rfl rfl rfl rfl rfl named Tryz.func7 closed
  lH wrap
  (fun os started H enc _ F => by rw [OpenClaim.pre_eq_preRow]; exact lifted os started H enc F)
end Go.Proofs.YthbpnknhfokadaaGreatDoor.surdValues
