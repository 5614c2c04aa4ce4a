/- kingpostlaw53.SpanFinds returns true for all arguments: the card. -/
import Derived.Test.YtdkpceodckdcfaaGreatDoorTeGj
import Derived.Test.YtdkpceodckdcfaaGreatDoorTeGd
import Derived.Test.YtdkpceodckdcfaaGreatDoorCards
import Derived.Test.YtdkpceodckdcfaaGreatDoorTie
import Derived.WalkKit
import Derived.ProofKit
import Derived.OpenShut
import Derived.WideKeyArgs
import Derived.Deep.DeepHandedRow
import Derived.Lib.LaidTab
set_option linter.unusedSimpArgs false
set_option linter.unusedVariables false
namespace Go.Proofs.YtdkpceodckdcfaaGreatDoor.spanFinds
open Go Go.ChangeShapes Go.WideShapes Go.ChangeAt Go.RowKit
theorem own : ownKnob Tryz.prog.godebug = none := by kernel_rfl
theorem Iq : Tryz.prog.globalNamed "internal/strconv.uint64pow10" = some 3 := by kernel_rfl
theorem laidOut : laidOutB Tryz.prog = true := by kernel_rfl
theorem GH : Tryz.prog.readableRec 25 = true := by kernel_rfl
theorem Gq : (25 : TypeId) < Tryz.prog.types.size := of_decide_eq_true (by kernel_rfl)
theorem Gl : Tryz.prog.readableRec 55 = true := by kernel_rfl
theorem GR : (55 : TypeId) < Tryz.prog.types.size := of_decide_eq_true (by kernel_rfl)
theorem Tq {W W' : World} (h : Below W.heap.size W W') (may : MemPlace → Prop) : W.keptBut W' may := by
 refine ⟨h.os, h.output, fun i hi => ?_⟩
 rw [h.block i hi]
 cases hh : W.heap[i]? with
 | none => rfl
 | some o => cases o <;> simp
theorem TR {W W' : World} (h : Below W.heap.size W W') {p : MemPlace} (hp : p.block < W.heap.size) : W.sameAt W' p := by
 cases p with
 | cell b off =>
  show W'.cell? _ = W.cell? _
  exact World.cell?_of_block (h.block b hp)
 | map b => exact h.block b hp
theorem Ox {H : Type} {enc : TypeId × Value → H} {P : Program} {f : Func} {s : ChangeSpec} {apart fresh handsOn again : Bool} {W W' : World} {args : Array Value} {v : Value} {ds gs : List (DataW H)} {before pa pv : List MemPlace}
  (hW : DataW.Whole enc P f.params.toList s.vars apart W args.toList ds gs before)
  (hres : ∀ (b : Nat) (sp : Nat → Bool) (hd : Bool), DataW.TrodAll enc P W' b sp hd f.resultTypes.toList (v.resultList f.resultTypes.size) (s.fn H (ds ++ gs)).results [])
  (hargs : ∀ sp : Nat → Bool, (∀ p ∈ before, sp p.block = true) → DataW.TrodAll enc P W' 0 sp true f.params.toList args.toList (s.fn H (ds ++ gs)).args pa)
  (hvars : ∀ sp : Nat → Bool, (∀ p ∈ before, sp p.block = true) → DataW.TrodVars enc P W' sp s.vars (s.fn H (ds ++ gs)).vars pv)
  (hps : before = pa ++ pv) (hb : Below W.heap.size W W')
  (hok : ∀ (j : Nat) (t : TypeId) (r : Value), f.resultTypes[j]? = some t → (v.resultList f.resultTypes.size)[j]? = some r → Value.okWide P W' .any 0 t r) :
  s.post enc P f apart fresh handsOn again W args v W' := by
 have hlt : ∀ p ∈ before, p.block < W.heap.size := fun p hp => hW.lt p hp
 have hold : ∀ p ∈ before, (fun b => decide (b < W.heap.size)) p.block = true := fun p hp => by simpa using hlt p hp
 refine ⟨ds, gs, before, [], pa, pv, hW, hres _ _ _, hargs _ hold, hvars _ hold, Tq hb _, fun _ => ?_⟩
 obtain ⟨_, _, _, _, _, hz, hn⟩ := hW
 refine ⟨hok, _, _, ([] ++ pa) ++ pv, ⟨[] ++ pa, pv, trodAll_append (hargs _ (fun _ _ => rfl)) (hres _ _ _), hvars _ (fun _ _ => rfl), rfl, ?_, ?_⟩, ?_⟩
 ·intro b off hp
  have hp' : MemPlace.cell b off ∈ before := by rw [hps]; simpa using hp
  have e : W'.frozen? ⟨b, off, none⟩ = W.frozen? ⟨b, off, none⟩ := by
   unfold World.frozen?
   rw [hb.block b (hlt _ hp')]
  rw [e]
  exact hz b off hp'
 ·intro ha
  have := hn ha
  rw [hps] at this
  simpa using this
 ·intro p hp _
  rw [hps]
  simpa using hp
theorem table {W : World} (h : laidMetH Tryz.prog Rows.spanFindsRow.laid W) : ∃ cs t fr, W.heap[3]? = some (.cells cs t fr) ∧ cs = (Lib.pow10Tab.map fun z => Value.int .u64 z).toArray := by
 have h' : laidMet Tryz.prog (("math/bits.deBruijn32tab", Rows.laid_math_bits_deBruijn32tab) :: ("math/bits.deBruijn64tab", Rows.laid_math_bits_deBruijn64tab) :: ("internal/strconv.uint64pow10", Rows.laid_internal_strconv_uint64pow10) :: [("unicode/utf8.acceptRanges", Rows.laid_unicode_utf8_acceptRanges), ("strconv.ErrRange", Rows.laid_strconv_ErrRange), ("strconv.ErrSyntax", Rows.laid_strconv_ErrSyntax), ("unicode/utf8.first", Rows.laid_unicode_utf8_first)]) W := h
 obtain ⟨ps, ⟨_, _, _, _, _, _, _, _, _, _, ⟨_, _, _, _, _, _, _, _, _, _, ⟨g, t, cs, fuel, p, q, hg, hty, hvar, hd, _⟩, _⟩, _⟩, _⟩ := h'
 obtain rfl := Option.some.inj (Iq.symm.trans hg)
 have hcs : cs.toList = Lib.pow10Tab.map fun z => Value.int .u64 z := by
  obtain rfl : t = 260 := Option.some.inj ((show (Tryz.prog.globals[3]?).map (·.type) = some 260 by kernel_rfl).symm.trans hty) |>.symm
  exact Lib.cells_of_tab (n := 20) (e := 203) (zs := Lib.pow10Tab) (by kernel_rfl) (by kernel_rfl) (by kernel_rfl) (by kernel_rfl) hd
 unfold World.var? at hvar
 rw [Iq] at hvar
 simp only [Option.bind_some] at hvar
 split at hvar
 ·rename_i cs' t' fr hh
  cases hvar
  exact ⟨_, _, _, hh, by rw [← hcs]⟩
 ·cases hvar
set_option maxRecDepth 100000 in
set_option maxHeartbeats 1000000 in
theorem LU (H : Type) (enc : TypeId × Value → H) (W : World) (base : Nat) (args : Array Value) (ds gs : List (DataW H)) (before : List MemPlace)
  (hval : ∀ (j : Nat) t v, Tryz.f9.params[j]? = some t → args[j]? = some v → Value.okWide Tryz.prog W .any base t v)
  (hW : DataW.Whole enc Tryz.prog Tryz.f9.params.toList Rows.spanFindsSpec.vars false W args.toList ds gs before) (hL : laidMetH Tryz.prog Rows.spanFindsRow.laid W) :
  Calls Tryz.prog 9 args W fun e W' => ∃ v, e = .returned v ∧ Rows.spanFindsSpec.post enc Tryz.prog Tryz.f9 false true false false W args v W' := by
 have hW' := hW
 have hlt := hW.lt
 obtain ⟨p, q, hA0, hV, rfl, hfz, hnd⟩ := hW
 have hA : DataW.TrodAll enc Tryz.prog W 0 (fun _ => true) true Tryz.f9.params.toList args.toList ds p := hA0
 rw [Tryz.params9] at hA hval
 obtain ⟨v0, vs0, d0, ds0, p0, q0, hargs, rfl, rfl, h0, r0⟩ := trodAll_cons hA
 obtain ⟨v1, vs1, d1, ds1, p1, q1, rfl, rfl, rfl, h1, r1⟩ := trodAll_cons r0
 obtain ⟨rfl, rfl, rfl⟩ := trodAll_nil r1
 obtain rfl : args = #[v0, v1] := by cases args; simp_all
 obtain ⟨rfl, rfl⟩ := trodVars_none hV
 clear hA0
 simp only [List.append_nil] at hW' hlt
 obtain ⟨as0, rfl, hs0⟩ := okWide_struct Tryz.underlying25 (hval 0 25 v0 rfl rfl)
 obtain ⟨a1, n1, c1, rfl⟩ := okWide_slice Tryz.underlying55 (hval 1 55 v1 rfl rfl)
 obtain ⟨b0, hb0⟩ := Te.Nw h0 (hs0.trans Te.Pa)
 obtain ⟨l1, hl1, hm1⟩ := Te.mz h1
 obtain ⟨cs, t, fr, hh, hcs⟩ := table hL
 have hG : Te.zM [(3, Obj.cells cs t fr)] := ⟨3, t, fr, Iq, by rw [hcs]; exact List.mem_singleton.2 rfl⟩
 have h1lt : 3 < W.heap.size := by
  rcases Nat.lt_or_ge 3 W.heap.size with h' | h'
  ·exact h'
  ·rw [Array.getElem?_eq_none h'] at hh; cases hh
 have walk := (Te.Gv hG b0 l1 hm1).2 W (Te.kt W) [.agg as0, .slice a1 n1 c1] (fun b h => h) (fun b o hb => by
  rw [List.mem_singleton] at hb
  cases hb
  exact ⟨h1lt, hh⟩) ⟨hb0, hl1, trivial⟩
 refine walk.mono fun e W' ⟨hb, rv, he, hr⟩ => ?_
 obtain rfl := Sx.Zg hr
 subst he
 have again : ∀ {t : TypeId} (hrec : Tryz.prog.readableRec t = true) (hrow : t < Tryz.prog.types.size) {v : Value} {d : DataW H} {ps : List MemPlace}, DataW.Trod enc Tryz.prog W 0 (fun _ => true) true t v d ps → (∀ p ∈ ps, p.block < W.heap.size) → ∀ sp : Nat → Bool, (∀ p ∈ ps, sp p.block = true) →
   DataW.Trod enc Tryz.prog W' 0 sp true t v d ps := fun hrec hrow _ _ _ h hp sp hs => Go.WideElems.Trod_stays laidOut hrec hrow h (fun p hp' => TR hb.toBelow (hp p hp')) hs
 refine ⟨_, rfl, Ox (pa := p0 ++ (p1 ++ ([]))) (pv := []) hW' (fun _ _ _ => trodAll_cons_mk (shut_bool Tryz.underlying4 _) trodAll_mk0) (fun sp hsp => ?_) (fun _ _ => rfl) (by simp) hb.toBelow (ok_one (by kernel_rfl) rfl (okWide_bool_mk Tryz.underlying4 _))⟩
 rw [Tryz.params9]
 exact trodAll_cons_mk (again GH Gq h0 (fun p hp => hlt p (by simp [hp])) sp fun p hp => hsp p (by simp [hp]))
  (trodAll_cons_mk (again Gl GR h1 (fun p hp => hlt p (by simp [hp])) sp fun p hp => hsp p (by simp [hp])) trodAll_mk0)
def Hc : List Int := [0, 1, 28, 2, 29, 14, 24, 3, 30, 22, 20, 15, 25, 17, 4, 8, 31, 27, 13, 23, 21, 19, 16, 7, 26, 12, 18, 6, 11, 5, 10, 9]
def gk : List Int := [0, 1, 56, 2, 57, 49, 28, 3, 61, 58, 42, 50, 38, 29, 17, 4, 62, 47, 59, 36, 45, 43, 51, 22, 53, 39, 33, 30, 24, 18, 12, 5, 63, 55, 48, 27, 60, 41, 37, 16, 46, 35, 44, 21, 52, 32, 23, 11, 54, 26, 40, 15, 34, 20, 31, 10, 25, 14, 19, 9, 13, 8, 7, 6]
def first : List Int := Go.Pinned.utf8FirstZ.map fun (n : Nat) => (n : Int)
def i7 : List Int := [128, 191, 160, 191, 128, 159, 144, 191, 128, 143] ++ List.replicate 22 0
def put (cs : Array Value) : Obj → Obj
 | .cells _ t frozen => .cells cs t frozen
 | o => o
def bytesOf (l : List Int) : Array Value := (l.map fun z => Value.int .u8 z).toArray
noncomputable def mB (h : Array Obj) : Array Obj :=
 ((((((((h.modify 3 (put (Lib.pow10Tab.map fun z => Value.int .u64 z).toArray)).modify 6 (put (bytesOf Hc))).modify 7 (put (bytesOf gk))).modify 5 (put (bytesOf i7))).modify 4 (put (bytesOf first))).modify
  2 (put #[.iface 276 (.pointer (some ⟨h.size, 0, none⟩))])).modify 1 (put #[.iface 276 (.pointer (some ⟨h.size + 1, 0, none⟩))])).push
  (.cells #[.string ⟨#[118, 97, 108, 117, 101, 32, 111, 117, 116, 32, 111, 102, 32, 114, 97, 110, 103, 101]⟩] 278 (0, 0))).push (.cells #[.string ⟨#[105, 110, 118, 97, 108, 105, 100, 32, 115, 121, 110, 116, 97, 120]⟩] 278 (0, 0))
noncomputable def uX (os : Os) : World := { World.holding Tryz.prog os ⟨#[], #[], []⟩ with heap := mB (World.holding Tryz.prog os ⟨#[], #[], []⟩).heap }
abbrev wA : Array Value := #[.agg #[.slice none 0 0, .int .i64 0, .int .i64 0, .int .i64 0, .int .i64 0, .string ⟨#[]⟩], .slice none 0 0]
theorem lW (os : Os) : laidMet Tryz.prog Rows.spanFindsRow.laid ((uX os).forCall (fun _ _ => 0) ⟨#[], wA, []⟩).memory :=
 laidMet_of_run' 8 (by kernel_rfl) (by kernel_rfl)
theorem reads (os : Os) {H : Type} (enc : TypeId × Value → H) : ∃ places, DataW.whole enc Tryz.prog ((uX os).forCall (fun _ _ => 0) ⟨#[], wA, []⟩).memory Tryz.f9.params.toList Rows.spanFindsSpec.vars false wA.toList 8 = some ([.agg [.nil, .lit (.int .i64 0), .lit (.int .i64 0), .lit (.int .i64 0), .lit (.int .i64 0), .lit (.string [])], .nil], [], places) :=
 ⟨[], by kernel_rfl⟩
set_option maxRecDepth 100000 in
theorem lifted (os : Os) (started : os.Started) (H : Type) (enc : TypeId × Value → H) (F : Stop.Interp) :
  ReturnsInHanded {} Tryz.checked os 9 .any ((OpenSpec.ofChange Rows.spanFindsSpec).preRow enc Tryz.prog Tryz.f9 Rows.spanFindsRow.domain false Rows.spanFindsRow.laid) (((OpenSpec.ofChange Rows.spanFindsSpec).at F).post enc Tryz.prog Tryz.f9 false true false false) := by
 obtain ⟨places, hx⟩ := reads os enc
 refine returnsInHanded_of_row (C := Tryz.checked) (s := OpenSpec.ofChange Rows.spanFindsSpec) own started (by kernel_rfl) Tryz.func9
  (witness_row_at (enc := enc) (C := Tryz.checked) false (uX os) wA rfl (by kernel_rfl) (by kernel_rfl) (by kernel_rfl)
   (OpenSpec.preRow_of_cond 8 hx (by kernel_rfl) (fun k hk => by cases hk) (by kernel_rfl) (lW os))) ?_
 intro W base args ds gs before hval hW _ _ _ hL _ _
 exact LU H enc W base args ds gs before hval hW hL
end Go.Proofs.YtdkpceodckdcfaaGreatDoor.spanFinds
