/- kingpostlaw08.SlopeFlatter returns true for all arguments: the card. -/
import Derived.Test.YthbpnknhfokadaaGreatDoorThUa
import Derived.Test.YthbpnknhfokadaaGreatDoorCards
import Derived.Test.YthbpnknhfokadaaGreatDoorTie
import Derived.WalkKit
import Derived.ProofKit
import Derived.OpenShut
import Derived.WideKeyArgs
import Derived.Deep.DeepHandedRow
import Derived.Lib.LaidTab
set_option linter.unusedSimpArgs false
set_option linter.unusedVariables false
namespace Go.Proofs.YthbpnknhfokadaaGreatDoor.slopeFlatter
open Go Go.ChangeShapes Go.WideShapes Go.ChangeAt Go.RowKit
theorem own : ownKnob Tryz.prog.godebug = none := by kernel_rfl
theorem II : Tryz.prog.globalNamed "internal/strconv.uint64pow10" = some 1 := by kernel_rfl
theorem laidOut : laidOutB Tryz.prog = true := by kernel_rfl
theorem K3 : Tryz.prog.readableRec 5 = true := by kernel_rfl
theorem kx : (5 : TypeId) < Tryz.prog.types.size := of_decide_eq_true (by kernel_rfl)
theorem Tu {W W' : World} (h : Below W.heap.size W W') (may : MemPlace → Prop) : W.keptBut W' may := by
 refine ⟨h.os, h.output, fun i hi => ?_⟩
 rw [h.block i hi]
 cases hh : W.heap[i]? with
 | none => rfl
 | some o => cases o <;> simp
theorem Tz {W W' : World} (h : Below W.heap.size W W') {p : MemPlace} (hp : p.block < W.heap.size) : W.sameAt W' p := by
 cases p with
 | cell b off =>
  show W'.cell? _ = W.cell? _
  exact World.cell?_of_block (h.block b hp)
 | map b => exact h.block b hp
theorem oU {H : Type} {enc : TypeId × Value → H} {P : Program} {f : Func} {s : ChangeSpec} {apart fresh handsOn again : Bool} {W W' : World} {args : Array Value} {v : Value} {ds gs : List (DataW H)} {before pa pv : List MemPlace}
  (hW : DataW.Whole enc P f.params.toList s.vars apart W args.toList ds gs before)
  (hres : ∀ (b : Nat) (sp : Nat → Bool) (hd : Bool), DataW.TrodAll enc P W' b sp hd f.resultTypes.toList (v.resultList f.resultTypes.size) (s.fn H (ds ++ gs)).results [])
  (hargs : ∀ sp : Nat → Bool, (∀ p ∈ before, sp p.block = true) → DataW.TrodAll enc P W' 0 sp true f.params.toList args.toList (s.fn H (ds ++ gs)).args pa)
  (hvars : ∀ sp : Nat → Bool, (∀ p ∈ before, sp p.block = true) → DataW.TrodVars enc P W' sp s.vars (s.fn H (ds ++ gs)).vars pv)
  (hps : before = pa ++ pv) (hb : Below W.heap.size W W')
  (hok : ∀ (j : Nat) (t : TypeId) (r : Value), f.resultTypes[j]? = some t → (v.resultList f.resultTypes.size)[j]? = some r → Value.okWide P W' .any 0 t r) :
  s.post enc P f apart fresh handsOn again W args v W' := by
 have hlt : ∀ p ∈ before, p.block < W.heap.size := fun p hp => hW.lt p hp
 have hold : ∀ p ∈ before, (fun b => decide (b < W.heap.size)) p.block = true := fun p hp => by simpa using hlt p hp
 refine ⟨ds, gs, before, [], pa, pv, hW, hres _ _ _, hargs _ hold, hvars _ hold, Tu hb _, fun _ => ?_⟩
 obtain ⟨_, _, _, _, _, hz, hn⟩ := hW
 refine ⟨hok, _, _, ([] ++ pa) ++ pv, ⟨[] ++ pa, pv, trodAll_append (hargs _ (fun _ _ => rfl)) (hres _ _ _), hvars _ (fun _ _ => rfl), rfl, ?_, ?_⟩, ?_⟩
 ·intro b off hp
  have hp' : MemPlace.cell b off ∈ before := by rw [hps]; simpa using hp
  have e : W'.frozen? ⟨b, off, none⟩ = W.frozen? ⟨b, off, none⟩ := by
   unfold World.frozen?
   rw [hb.block b (hlt _ hp')]
  rw [e]
  exact hz b off hp'
 ·intro ha
  have := hn ha
  rw [hps] at this
  simpa using this
 ·intro p hp _
  rw [hps]
  simpa using hp
theorem table {W : World} (h : laidMetH Tryz.prog Rows.slopeFlatterRow.laid W) : ∃ cs t fr, W.heap[1]? = some (.cells cs t fr) ∧ cs = (Lib.pow10Tab.map fun z => Value.int .u64 z).toArray := by
 have h' : laidMet Tryz.prog (("math/bits.deBruijn32tab", Rows.laid_math_bits_deBruijn32tab) :: ("math/bits.deBruijn64tab", Rows.laid_math_bits_deBruijn64tab) :: ("internal/strconv.uint64pow10", Rows.laid_internal_strconv_uint64pow10) :: [("unicode/utf8.acceptRanges", Rows.laid_unicode_utf8_acceptRanges), ("strconv.ErrRange", Rows.laid_strconv_ErrRange), ("strconv.ErrSyntax", Rows.laid_strconv_ErrSyntax), ("kingpost/root.primes", Rows.laid_kingpost_root_primes), ("kingpost/surd.signPlaces", Rows.laid_kingpost_surd_signPlaces), ("unicode/utf8.first", Rows.laid_unicode_utf8_first)]) W := h
 obtain ⟨ps, ⟨_, _, _, _, _, _, _, _, _, _, ⟨_, _, _, _, _, _, _, _, _, _, ⟨g, t, cs, fuel, p, q, hg, hty, hvar, hd, _⟩, _⟩, _⟩, _⟩ := h'
 obtain rfl := Option.some.inj (II.symm.trans hg)
 have hcs : cs.toList = Lib.pow10Tab.map fun z => Value.int .u64 z := by
  obtain rfl : t = 216 := Option.some.inj ((show (Tryz.prog.globals[1]?).map (·.type) = some 216 by kernel_rfl).symm.trans hty) |>.symm
  exact Lib.cells_of_tab (n := 20) (e := 160) (zs := Lib.pow10Tab) (by kernel_rfl) (by kernel_rfl) (by kernel_rfl) (by kernel_rfl) hd
 unfold World.var? at hvar
 rw [II] at hvar
 simp only [Option.bind_some] at hvar
 split at hvar
 ·rename_i cs' t' fr hh
  cases hvar
  exact ⟨_, _, _, hh, by rw [← hcs]⟩
 ·cases hvar
theorem jP : Tryz.prog.globalNamed "kingpost/root.primes" = some 2 := by kernel_rfl
theorem iv {W : World} (h : laidMetH Tryz.prog Rows.slopeFlatterRow.laid W) : ∃ t fr, W.heap[2]? = some (.cells Te.zL t fr) := by
 have h' : laidMet Tryz.prog (("math/bits.deBruijn32tab", Rows.laid_math_bits_deBruijn32tab) :: ("math/bits.deBruijn64tab", Rows.laid_math_bits_deBruijn64tab) :: ("internal/strconv.uint64pow10", Rows.laid_internal_strconv_uint64pow10) :: [("unicode/utf8.acceptRanges", Rows.laid_unicode_utf8_acceptRanges), ("strconv.ErrRange", Rows.laid_strconv_ErrRange), ("strconv.ErrSyntax", Rows.laid_strconv_ErrSyntax), ("kingpost/root.primes", Rows.laid_kingpost_root_primes), ("kingpost/surd.signPlaces", Rows.laid_kingpost_surd_signPlaces), ("unicode/utf8.first", Rows.laid_unicode_utf8_first)]) W := h
 obtain ⟨ps, ⟨_, _, _, _, _, _, _, _, _, _, ⟨_, _, _, _, _, _, _, _, _, _, ⟨_, _, _, _, _, _, _, _, _, _, ⟨_, _, _, _, _, _, _, _, _, _, ⟨_, _, _, _, _, _, _, _, _, _, ⟨_, _, _, _, _, _, _, _, _, _, ⟨g, t, cs, fuel, p, q, hg, hty, hvar, hd, _⟩, _⟩, _⟩, _⟩, _⟩, _⟩, _⟩, _⟩ := h'
 obtain rfl := Option.some.inj (jP.symm.trans hg)
 have hcs : cs.toList = Te.zL.toList := by
  obtain rfl : t = 218 := Option.some.inj ((show (Tryz.prog.globals[2]?).map (·.type) = some 218 by kernel_rfl).symm.trans hty) |>.symm
  exact (Te.Tv (n := 25) (e := 9) (zs := Te.Pn) Tryz.underlying218 Tryz.underlying9 (by kernel_rfl) (by kernel_rfl) hd).trans Te.qN
 unfold World.var? at hvar
 rw [jP] at hvar
 simp only [Option.bind_some] at hvar
 split at hvar
 ·rename_i cs' t' fr hh
  cases hvar
  exact ⟨_, _, by rw [← Array.toList_inj.1 hcs]; exact hh⟩
 ·cases hvar
theorem jL : Tryz.prog.globalNamed "kingpost/surd.signPlaces" = some 0 := by kernel_rfl
theorem Hl {W : World} (h : laidMetH Tryz.prog Rows.slopeFlatterRow.laid W) : ∃ t fr, W.heap[0]? = some (.cells Te.ZI t fr) := by
 have h' : laidMet Tryz.prog (("math/bits.deBruijn32tab", Rows.laid_math_bits_deBruijn32tab) :: ("math/bits.deBruijn64tab", Rows.laid_math_bits_deBruijn64tab) :: ("internal/strconv.uint64pow10", Rows.laid_internal_strconv_uint64pow10) :: [("unicode/utf8.acceptRanges", Rows.laid_unicode_utf8_acceptRanges), ("strconv.ErrRange", Rows.laid_strconv_ErrRange), ("strconv.ErrSyntax", Rows.laid_strconv_ErrSyntax), ("kingpost/root.primes", Rows.laid_kingpost_root_primes), ("kingpost/surd.signPlaces", Rows.laid_kingpost_surd_signPlaces), ("unicode/utf8.first", Rows.laid_unicode_utf8_first)]) W := h
 obtain ⟨ps, ⟨_, _, _, _, _, _, _, _, _, _, ⟨_, _, _, _, _, _, _, _, _, _, ⟨_, _, _, _, _, _, _, _, _, _, ⟨_, _, _, _, _, _, _, _, _, _, ⟨_, _, _, _, _, _, _, _, _, _, ⟨_, _, _, _, _, _, _, _, _, _, ⟨_, _, _, _, _, _, _, _, _, _, ⟨g, t, cs, fuel, p, q, hg, hty, hvar, hd, _⟩, _⟩, _⟩, _⟩, _⟩, _⟩, _⟩, _⟩, _⟩ := h'
 obtain rfl := Option.some.inj (jL.symm.trans hg)
 have hcs : cs.toList = [4, 16, 64].map fun z => Value.int .i64 z := by
  obtain rfl : t = 115 := Option.some.inj ((show (Tryz.prog.globals[0]?).map (·.type) = some 115 by kernel_rfl).symm.trans hty) |>.symm
  exact Lib.cells_of_tab (n := 3) (e := 3) (zs := [4, 16, 64]) (by kernel_rfl) (by kernel_rfl) (by kernel_rfl) (by kernel_rfl) hd
 have hcs2 : cs = Te.ZI := Array.toList_inj.1 hcs
 unfold World.var? at hvar
 rw [jL] at hvar
 simp only [Option.bind_some] at hvar
 split at hvar
 ·rename_i cs' t' fr hh
  cases hvar
  exact ⟨_, _, by rw [← hcs2]; exact hh⟩
 ·cases hvar
set_option maxRecDepth 100000 in
set_option maxHeartbeats 1000000 in
theorem MG (H : Type) (enc : TypeId × Value → H) (W : World) (base : Nat) (args : Array Value) (ds gs : List (DataW H)) (before : List MemPlace)
  (hval : ∀ (j : Nat) t v, Tryz.f9.params[j]? = some t → args[j]? = some v → Value.okWide Tryz.prog W .any base t v)
  (hW : DataW.Whole enc Tryz.prog Tryz.f9.params.toList Rows.slopeFlatterSpec.vars false W args.toList ds gs before) (hL : laidMetH Tryz.prog Rows.slopeFlatterRow.laid W) :
  Calls Tryz.prog 9 args W fun e W' => ∃ v, e = .returned v ∧ Rows.slopeFlatterSpec.post enc Tryz.prog Tryz.f9 false true false false W args v W' := by
 have hW' := hW
 have hlt := hW.lt
 obtain ⟨p, q, hA0, hV, rfl, hfz, hnd⟩ := hW
 have hA : DataW.TrodAll enc Tryz.prog W 0 (fun _ => true) true Tryz.f9.params.toList args.toList ds p := hA0
 rw [Tryz.params9] at hA hval
 obtain ⟨v0, vs0, d0, ds0, p0, q0, hargs, rfl, rfl, h0, r0⟩ := trodAll_cons hA
 obtain ⟨v1, vs1, d1, ds1, p1, q1, rfl, rfl, rfl, h1, r1⟩ := trodAll_cons r0
 obtain ⟨v2, vs2, d2, ds2, p2, q2, rfl, rfl, rfl, h2, r2⟩ := trodAll_cons r1
 obtain ⟨v3, vs3, d3, ds3, p3, q3, rfl, rfl, rfl, h3, r3⟩ := trodAll_cons r2
 obtain ⟨rfl, rfl, rfl⟩ := trodAll_nil r3
 obtain rfl : args = #[v0, v1, v2, v3] := by cases args; simp_all
 obtain ⟨rfl, rfl⟩ := trodVars_none hV
 clear hA0
 simp only [List.append_nil] at hW' hlt
 obtain ⟨k0, rfl⟩ := okWide_int Tryz.underlying5 (hval 0 5 v0 rfl rfl)
 obtain ⟨k1, rfl⟩ := okWide_int Tryz.underlying5 (hval 1 5 v1 rfl rfl)
 obtain ⟨k2, rfl⟩ := okWide_int Tryz.underlying5 (hval 2 5 v2 rfl rfl)
 obtain ⟨k3, rfl⟩ := okWide_int Tryz.underlying5 (hval 3 5 v3 rfl rfl)
 have hu0 := Te.uG h0
 have hu1 := Te.uG h1
 have hu2 := Te.uG h2
 have hu3 := Te.uG h3
 obtain ⟨cs, t, fr, hh, hcs⟩ := table hL
 obtain ⟨t1, fr1, hh1⟩ := iv hL
 obtain ⟨t2, fr2, hh2⟩ := Hl hL
 have hG : Te.UZ [(2, Obj.cells Te.zL t1 fr1), (0, Obj.cells Te.ZI t2 fr2), (1, Obj.cells cs t fr)] := ⟨⟨⟨1, t, fr, II, by rw [hcs]; exact List.mem_cons_of_mem _ (List.mem_cons_of_mem _ List.mem_cons_self)⟩, t1, fr1, _, rfl⟩, t1, fr1, t2, fr2, _, rfl⟩
 have lt : ∀ {k : Nat} {o : Obj}, W.heap[k]? = some o → k < W.heap.size := fun {k o} h => by
  rcases Nat.lt_or_ge k W.heap.size with h' | h'
  ·exact h'
  ·rw [Array.getElem?_eq_none h'] at h; cases h
 have walk := (Te.Ub hG k0 k1 k2 k3 hu0 hu1 hu2 hu3).2 W (Te.G3 W) [.int .u8 k0, .int .u8 k1, .int .u8 k2, .int .u8 k3] (fun b h => h) (fun b o hb => by
  rcases List.mem_cons.1 hb with hb | hb
  ·cases hb; exact ⟨lt hh1, hh1⟩
  rcases List.mem_cons.1 hb with hb | hb
  ·cases hb; exact ⟨lt hh2, hh2⟩
  rw [List.mem_singleton] at hb
  cases hb; exact ⟨lt hh, hh⟩) ⟨.v _, .v _, .v _, .v _, trivial⟩
 refine walk.mono fun e W' ⟨hb, rv, he, hr⟩ => ?_
 obtain rfl := Sx.ZR hr
 subst he
 have again : ∀ {t : TypeId} (hrec : Tryz.prog.readableRec t = true) (hrow : t < Tryz.prog.types.size) {v : Value} {d : DataW H} {ps : List MemPlace}, DataW.Trod enc Tryz.prog W 0 (fun _ => true) true t v d ps → (∀ p ∈ ps, p.block < W.heap.size) → ∀ sp : Nat → Bool, (∀ p ∈ ps, sp p.block = true) →
   DataW.Trod enc Tryz.prog W' 0 sp true t v d ps := fun hrec hrow _ _ _ h hp sp hs => Go.WideElems.Trod_stays laidOut hrec hrow h (fun p hp' => Tz hb.toBelow (hp p hp')) hs
 refine ⟨_, rfl, oU (pa := p0 ++ (p1 ++ (p2 ++ (p3 ++ ([]))))) (pv := []) hW' (fun _ _ _ => trodAll_cons_mk (shut_bool Tryz.underlying4 _) trodAll_mk0) (fun sp hsp => ?_) (fun _ _ => rfl) (by simp) hb.toBelow (ok_one (by kernel_rfl) rfl (okWide_bool_mk Tryz.underlying4 _))⟩
 rw [Tryz.params9]
 exact trodAll_cons_mk (again K3 kx h0 (fun p hp => hlt p (by simp [hp])) sp fun p hp => hsp p (by simp [hp]))
  (trodAll_cons_mk (again K3 kx h1 (fun p hp => hlt p (by simp [hp])) sp fun p hp => hsp p (by simp [hp]))
  (trodAll_cons_mk (again K3 kx h2 (fun p hp => hlt p (by simp [hp])) sp fun p hp => hsp p (by simp [hp]))
  (trodAll_cons_mk (again K3 kx h3 (fun p hp => hlt p (by simp [hp])) sp fun p hp => hsp p (by simp [hp])) trodAll_mk0)))
def I6 : List Int := [0, 1, 28, 2, 29, 14, 24, 3, 30, 22, 20, 15, 25, 17, 4, 8, 31, 27, 13, 23, 21, 19, 16, 7, 26, 12, 18, 6, 11, 5, 10, 9]
def Ht : List Int := [0, 1, 56, 2, 57, 49, 28, 3, 61, 58, 42, 50, 38, 29, 17, 4, 62, 47, 59, 36, 45, 43, 51, 22, 53, 39, 33, 30, 24, 18, 12, 5, 63, 55, 48, 27, 60, 41, 37, 16, 46, 35, 44, 21, 52, 32, 23, 11, 54, 26, 40, 15, 34, 20, 31, 10, 25, 14, 19, 9, 13, 8, 7, 6]
def first : List Int := Go.Pinned.utf8FirstZ.map fun (n : Nat) => (n : Int)
def IY : List Int := [128, 191, 160, 191, 128, 159, 144, 191, 128, 143] ++ List.replicate 22 0
def put (cs : Array Value) : Obj → Obj
 | .cells _ t frozen => .cells cs t frozen
 | o => o
def bytesOf (l : List Int) : Array Value := (l.map fun z => Value.int .u8 z).toArray
noncomputable def mG (h : Array Obj) : Array Obj :=
 ((((((((((h.modify 2 (put Te.zL)).modify 0 (put Te.ZI)).modify 1 (put (Lib.pow10Tab.map fun z => Value.int .u64 z).toArray)).modify 4 (put (bytesOf I6))).modify 5 (put (bytesOf Ht))).modify 9 (put (bytesOf IY))).modify 8 (put (bytesOf first))).modify
  7 (put #[.iface 275 (.pointer (some ⟨h.size, 0, none⟩))])).modify 6 (put #[.iface 275 (.pointer (some ⟨h.size + 1, 0, none⟩))])).push
  (.cells #[.string ⟨#[118, 97, 108, 117, 101, 32, 111, 117, 116, 32, 111, 102, 32, 114, 97, 110, 103, 101]⟩] 277 (0, 0))).push (.cells #[.string ⟨#[105, 110, 118, 97, 108, 105, 100, 32, 115, 121, 110, 116, 97, 120]⟩] 277 (0, 0))
noncomputable def Vg (os : Os) : World := { World.holding Tryz.prog os ⟨#[], #[], []⟩ with heap := mG (World.holding Tryz.prog os ⟨#[], #[], []⟩).heap }
abbrev wA : Array Value := #[.int .u8 0, .int .u8 0, .int .u8 0, .int .u8 0]
theorem NK (os : Os) : laidMet Tryz.prog Rows.slopeFlatterRow.laid ((Vg os).forCall (fun _ _ => 0) ⟨#[], wA, []⟩).memory :=
 laidMet_of_run' 8 (by kernel_rfl) (by kernel_rfl)
theorem reads (os : Os) {H : Type} (enc : TypeId × Value → H) : ∃ places, DataW.whole enc Tryz.prog ((Vg os).forCall (fun _ _ => 0) ⟨#[], wA, []⟩).memory Tryz.f9.params.toList Rows.slopeFlatterSpec.vars false wA.toList 8 = some ([.lit (.int .u8 0), .lit (.int .u8 0), .lit (.int .u8 0), .lit (.int .u8 0)], [], places) :=
 ⟨[], by kernel_rfl⟩
set_option maxRecDepth 100000 in
theorem lifted (os : Os) (started : os.Started) (H : Type) (enc : TypeId × Value → H) (F : Stop.Interp) :
  ReturnsInHanded {} Tryz.checked os 9 .any ((OpenSpec.ofChange Rows.slopeFlatterSpec).preRow enc Tryz.prog Tryz.f9 Rows.slopeFlatterRow.domain false Rows.slopeFlatterRow.laid) (((OpenSpec.ofChange Rows.slopeFlatterSpec).at F).post enc Tryz.prog Tryz.f9 false true false false) := by
 obtain ⟨places, hx⟩ := reads os enc
 refine returnsInHanded_of_row (C := Tryz.checked) (s := OpenSpec.ofChange Rows.slopeFlatterSpec) own started (by kernel_rfl) Tryz.func9
  (witness_row_at (enc := enc) (C := Tryz.checked) false (Vg os) wA rfl (by kernel_rfl) (by kernel_rfl) (by kernel_rfl)
   (OpenSpec.preRow_of_cond 8 hx (by kernel_rfl) (fun k hk => by cases hk) (by kernel_rfl) (NK os))) ?_
 intro W base args ds gs before hval hW _ _ _ hL _ _
 exact MG H enc W base args ds gs before hval hW hL
end Go.Proofs.YthbpnknhfokadaaGreatDoor.slopeFlatter

namespace Go.Proofs.YthbpnknhfokadaaGreatDoor.slopeFlatter
open Go Go.ChangeShapes Go.WideShapes Go.ChangeAt Go.RowKit
theorem G4 : (Rows.slopeFlatterRow.inPlace == Tryz.pinned.checked.prog.inPlace 9) = true := by kernel_rfl
theorem G6 : (Rows.slopeFlatterRow.unfollowed == Tryz.pinned.checked.prog.unfollowed 9) = true := by kernel_rfl
theorem G5 : (Rows.slopeFlatterRow.recurses == Tryz.pinned.checked.prog.recurses 9) = true := by kernel_rfl
theorem G7 : (Rows.slopeFlatterRow.named == Tryz.pinned.checked.prog.varsNamed 9) = true := by kernel_rfl
theorem closed : joinedFacts Tryz.pinned.checked.prog 9 Tryz.f9 (OpenSpec.ofChange Rows.slopeFlatterSpec).bare Rows.slopeFlatterRow = true := by
 unfold joinedFacts
 rw [G4, G6, G5, G7]
 kernel_rfl
theorem wrap : Tryz.f9.isWrapper Tryz.pinned.checked.prog Rows.slopeFlatterRow.wrapper Rows.slopeFlatterRow.mainSum := by
 unfold Func.isWrapper; first | (rw [if_pos (by decide +kernel)]; kernel_rfl) | (rw [if_neg (by decide +kernel)]; exact ⟨rfl, rfl⟩)
theorem HH : Tryz.f9.isInstance Tryz.pinned.checked.prog Rows.slopeFlatterRow.origin Rows.slopeFlatterRow.targs := of_decide_eq_true (by kernel_rfl)
theorem named : Tryz.pinned.checked.prog.funcNamed Rows.slopeFlatterRow.func = some 9 := by kernel_rfl
theorem said : Rows.SlopeFlatterSaid :=
 OpenClaim.holds_of_cond 9 Tryz.f9 rfl rfl rfl rfl rfl rfl rfl ⟨rfl, rfl, rfl, rfl, rfl⟩ rfl rfl rfl rfl rfl named Tryz.func9 closed
  HH wrap
  (fun os started H enc _ F => by rw [OpenClaim.pre_eq_preRow]; exact lifted os started H enc F)
end Go.Proofs.YthbpnknhfokadaaGreatDoor.slopeFlatter
