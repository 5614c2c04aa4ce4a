/- strconv.Atoi of any word: the number, and whether there is an error. -/
import Derived.Test.YtdkpceodckdcfaaGreatDoorTeIc
import Derived.Test.YtdkpceodckdcfaaGreatDoorTeJ
import Derived.Test.YtdkpceodckdcfaaGreatDoorArU
import Derived.Shelf.Strconv.AtoiAll
import Derived.Shelf.LaysC
import Derived.Shelf.Strings.Builder1
import Derived.Test.YtdkpceodckdcfaaGreatDoorProg
import Derived.Test.YtdkpceodckdcfaaGreatDoorSxU
import Derived.Test.YtdkpceodckdcfaaGreatDoorArO
import Derived.Shelf.Small.Strs
import Derived.Shelf.Strings.Count
import Derived.Shelf.Strings.Prefix
set_option linter.unusedSimpArgs false
set_option linter.unusedVariables false
namespace Go.Proofs
open Go.Shelf
theorem Tryz.laysM172 : LaysM.n172 Tryz.prog Tryz.lays172_ren := { Tryz.lays172 with
 t80 := Tryz.underlying116,
 a80 := Tryz.isAgg116,
 z80 := Tryz.sizeOf116,
 v80 := Tryz.zeroValue116,
 i0 := by kernel_rfl,
 i2 := by kernel_rfl,
 i3 := by kernel_rfl,
 i4 := by kernel_rfl,
 i5 := by kernel_rfl,
 i9 := by kernel_rfl,
 i20 := by kernel_rfl,
 i21 := by kernel_rfl,
 i37 := by kernel_rfl,
 i46 := by kernel_rfl,
 i51 := by kernel_rfl,
 i53 := by kernel_rfl,
 i75 := by kernel_rfl,
 i76 := by kernel_rfl,
 i80 := by kernel_rfl,
 i85 := by kernel_rfl,
 i127 := by kernel_rfl,
 i143 := by kernel_rfl,
 i145 := by kernel_rfl,
 i167 := by kernel_rfl,
 i168 := by kernel_rfl,
 i171 := by kernel_rfl,
 i173 := by kernel_rfl,
 i175 := by kernel_rfl,
 i210 := by kernel_rfl,
 i212 := by kernel_rfl,
 i232 := by kernel_rfl,
 i233 := by kernel_rfl,
 m15 := by kernel_rfl,
 m16 := by kernel_rfl,
 m17 := by kernel_rfl,
 m18 := by kernel_rfl,
 m19 := by kernel_rfl }
theorem Tryz.laysC172 : LaysC.n172 Tryz.prog Tryz.lays172_ren := { Tryz.laysM172 with
 c0 := by kernel_rfl,
 c2 := by kernel_rfl,
 c3 := by kernel_rfl,
 c4 := by kernel_rfl,
 c5 := by kernel_rfl,
 c9 := by kernel_rfl,
 c20 := by kernel_rfl,
 c21 := by kernel_rfl,
 c37 := by kernel_rfl,
 c46 := by kernel_rfl,
 c51 := by kernel_rfl,
 c53 := by kernel_rfl,
 c75 := by kernel_rfl,
 c76 := by kernel_rfl,
 c80 := by kernel_rfl,
 c85 := by kernel_rfl,
 c127 := by kernel_rfl,
 c143 := by kernel_rfl,
 c145 := by kernel_rfl,
 c167 := by kernel_rfl,
 c168 := by kernel_rfl,
 c171 := by kernel_rfl,
 c173 := by kernel_rfl,
 c175 := by kernel_rfl,
 c210 := by kernel_rfl,
 c212 := by kernel_rfl,
 c213 := by kernel_rfl,
 c232 := by kernel_rfl,
 c233 := by kernel_rfl }
end Go.Proofs
namespace Go.Te
open Go Go.Sx Go.Proofs Go.Ar Go.RowKit
set_option maxRecDepth 100000
set_option maxHeartbeats 4000000
def atOk (s : zp) : Bool := match Lib.atoiAll s with | .ok _ => true | _ => false
def Zh (s : zp) : Int := match Lib.atoiAll s with | .ok v => v | .range => Lib.atoiSat s | _ => 0
def Rj (v : Value) : Prop := v = .nilIface ∨ ∃ t x, v = .iface t x
def rX (G : List (Nat × Obj)) (g : Nat) : Prop := ∃ c t fr ev, (g, Obj.cells c t fr) ∈ G ∧ c[0]? = some ev ∧ Rj ev
structure xN (G : List (Nat × Obj)) : Prop where
 tab : yZ G
 syn : rX G 1
 ran : rX G 2
def V3 : List AV → Option (List zS × AV)
 | [.str s] => some ([.p (s.length ≤ 281474976710656)], .tup 2 (zU [.i (Zh s), .er (atOk s)]))
 | _ => none
theorem qf {G : List (Nat × Obj)} (hG : xN G) : zn Tryz.prog G 119 V3 := by
 intro xs ps r h hp
 unfold V3 at h
 split at h
 ·rename_i s
  cases h
  have hl : s.length ≤ 281474976710656 := hp _ List.mem_cons_self
  refine ⟨enters_of Tryz.func119 (by kernel_rfl) rfl, fun w S vals hS hg hr => ?_⟩
  match vals, hr with
  | [v], ⟨hv, _⟩ =>
  obtain rfl := ZZ hv
  have cell : ∀ g, rX G g → ∃ ev, w.cell? ⟨g, 0, none⟩ = some ev ∧ Rj ev := fun g ⟨c, t, fr, ev, h1, h2, h3⟩ => ⟨ev, by simp [World.cell?, (hg _ _ h1).2, h2], h3⟩
  cases ha : Lib.atoiAll s with
  | ok v =>
   refine (Go.Proofs.Any.strconv_Atoi_ok Tryz.laysC172 ⟨s.toArray⟩ (by show s.length ≤ _; omega) v (by rw [List.toList_toArray]; exact ha) w).mono ?_
   rintro e w' ⟨rfl, hw⟩
   have e1 : Zh s = v := by unfold Zh; rw [ha]
   have e2 : atOk s = true := by unfold atOk; rw [ha]
   rw [e1, e2]
   refine ⟨?_, _, rfl, .tup _ rfl fun i hi => ?_⟩
   ·rcases hw with rfl | ⟨t, rfl⟩
    ·exact ⟨Below.refl _ _, Nat.le_refl _⟩
    ·exact ⟨⟨rfl, rfl, rfl, by rw [Lib.bytesWorld_size]; omega, fun b hb => Lib.bytesWorld_at_old w _ t b hb⟩, ub w 1⟩
   ·match i, hi with
    | 0, _ => exact .v _
    | 1, _ => exact .er _ (fun _ => rfl) (fun h => by cases h)
  | range =>
   obtain ⟨ev, h1, h2⟩ := cell _ hG.ran
   refine (Go.Proofs.Any.strconv_Atoi_range Tryz.laysC172 ⟨s.toArray⟩ (by show s.length ≤ _; omega) (by rw [List.toList_toArray]; exact ha) ev w h1 h2).mono ?_
   rintro e w' ⟨N, rfl, _, _, hb⟩
   have e1 : Zh s = Lib.atoiSat s := by unfold Zh; rw [ha]
   have e2 : atOk s = false := by unfold atOk; rw [ha]
   rw [e1, e2]
   refine ⟨⟨hb, Nat.le_refl _⟩, _, rfl, .tup _ rfl fun i hi => ?_⟩
   match i, hi with
   | 0, _ => exact .v _
   | 1, _ => exact .er _ (fun h => by cases h) (fun _ => ⟨_, _, rfl⟩)
  | _ =>
   obtain ⟨ev, h1, h2⟩ := cell _ hG.syn
   refine (Go.Proofs.Any.strconv_Atoi_syntax Tryz.laysC172 ⟨s.toArray⟩ (by show s.length ≤ _; omega) (by rw [List.toList_toArray]; exact ha) ev w h1 h2).mono ?_
   rintro e w' ⟨N, rfl, _, _, hb⟩
   have e1 : Zh s = 0 := by unfold Zh; rw [ha]
   have e2 : atOk s = false := by unfold atOk; rw [ha]
   rw [e1, e2]
   refine ⟨⟨hb, Nat.le_refl _⟩, _, rfl, .tup _ rfl fun i hi => ?_⟩
   match i, hi with
   | 0, _ => exact .v _
   | 1, _ => exact .er _ (fun h => by cases h) (fun _ => ⟨_, _, rfl⟩)
 ·cases h
theorem pQ (s : zp) : ZG .i64 (Zh s) := by
 unfold Zh
 cases ha : Lib.atoiAll s with
 | ok v => exact Lib.atoiAll_bounds ha
 | range =>
  simp only [Lib.atoiSat]
  split <;> simp [ZG]
 | _ => simp [ZG]
theorem rb {w : zp} (h : YJ w = true) : atOk w = true ∧ Zh w = (zP w : Nat) := by
 obtain ⟨h1, h2⟩ := xH.1 h
 have hl : w.length ≤ 9 := by unfold YJ at h; rw [Bool.and_eq_true, Nat.ble_eq] at h; exact h.2
 have hd : ZH w = true := by unfold YJ at h; rw [Bool.and_eq_true] at h; exact h.1
 have ha : Lib.atoiAll w = .ok (zP w : Nat) := by
  have hi := UX hd
  rw [Lib.atoiAll_short w (by omega), SQ hi.1, hi.2]
  rfl
 unfold atOk Zh
 rw [ha]
 exact ⟨rfl, rfl⟩
theorem pz {w : zp} (h0 : 0 ≤ Zh w) (h1 : w.length ≤ 9) (h2 : Lib.itoa (Zh w) = w) : YJ w = true := by
 obtain ⟨m, hm⟩ : ∃ m : Nat, Zh w = m := ⟨(Zh w).toNat, by omega⟩
 rw [hm, yP] at h2
 unfold YJ
 rw [Bool.and_eq_true, Nat.ble_eq]
 exact ⟨h2 ▸ Yq m, h1⟩
end Go.Te

namespace Go.Te
open Go Go.Sx Go.Proofs Go.Ar
set_option maxRecDepth 100000
set_option maxHeartbeats 4000000
end Go.Te

namespace Go.Te
open Go Go.Sx Go.Proofs Go.Ar
set_option maxRecDepth 100000
set_option maxHeartbeats 4000000
structure oR where
 z : Nat
 u : Int
 L : List Int
end Go.Te

namespace Go.Proofs
open Go.Shelf
def Tryz.lays169_ren : Go.Shelf.Ren := ⟨fun | 169 => 73 | n => n, fun | 70 => 105 | 9 => 9 | 0 => 0 | 72 => 108 | 37 => 106 | 127 => 161 | 3 => 3 | 5 => 5 | n => n, fun | n => n⟩
theorem Tryz.lays169 : Go.Proofs.Lays.n169 Tryz.prog Tryz.lays169_ren := {
 mixed := by kernel_rfl
 f169 := Tryz.func73.trans (congrArg some (by kernel_rfl))
 t0 := Tryz.underlying0
 a0 := Tryz.isAgg0
 z0 := Tryz.sizeOf0
 v0 := Tryz.zeroValue0
 t3 := Tryz.underlying3
 a3 := Tryz.isAgg3
 z3 := Tryz.sizeOf3
 v3 := Tryz.zeroValue3
 t9 := Tryz.underlying9
 a9 := Tryz.isAgg9
 z9 := Tryz.sizeOf9
 v9 := Tryz.zeroValue9
 t37 := Tryz.underlying106
 a37 := Tryz.isAgg106
 z37 := Tryz.sizeOf106
 v37 := Tryz.zeroValue106
 t70 := Tryz.underlying105
 a70 := Tryz.isAgg105
 z70 := Tryz.sizeOf105
 v70 := Tryz.zeroValue105
 t72 := Tryz.underlying108
 a72 := Tryz.isAgg108
 z72 := Tryz.sizeOf108
 v72 := Tryz.zeroValue108
 t127 := Tryz.underlying161
 a127 := Tryz.isAgg161
 z127 := Tryz.sizeOf161
 v127 := Tryz.zeroValue161 }
theorem Tryz.Builder_Extra_169 : Builder.Extra Tryz.prog Tryz.lays169_ren := {
 sizeBuilder := by kernel_rfl
 liesBuilder := by kernel_rfl
 t5 := Tryz.underlying5
 a5 := Tryz.isAgg5
 z5 := Tryz.sizeOf5
 v5 := Tryz.zeroValue5
 infoByte := by kernel_rfl
 cellsByte := by kernel_rfl
 sizeByte := by kernel_rfl
 neB5 := by decide }
end Go.Proofs

namespace Go.Te
open Go Go.Sx Go.Proofs Go.RowKit Go.Shelf
theorem qd : (Tryz.prog.info? 108).map (·.size) = some 2 := by kernel_rfl
theorem pB : liesAt Tryz.prog Tryz.prog.depth 108 (2 / Tryz.prog.cellsOf 108) 0 108 1 = true := by kernel_rfl
set_option maxHeartbeats 1000000 in
set_option maxRecDepth 100000 in
theorem RI (b : Nat) (w : World) (h0 : w.cell? ⟨b, 0, none⟩ = some (.pointer (some ⟨b, 0, none⟩))) :
  Calls Tryz.prog 120 #[.pointer (some ⟨b, 0, none⟩)] w fun e w' => e = .returned (.tuple #[]) ∧ w' = w := by
 obtain ⟨j, hj, _⟩ := Option.map_eq_some_iff.1 qd
 go_enter Tryz.func120, Tryz.ntmps120
 go_wp2
 rw [Lib.run_neq_ptr_same w _ Tryz.underlying105 hj]
 go_wp2
 go_end0
 exact ⟨rfl, rfl⟩
set_option maxHeartbeats 1000000 in
set_option maxRecDepth 100000 in
theorem Rq (b : Nat) (w : World) (h0 : w.cell? ⟨b, 0, none⟩ = some (.pointer none)) (hsh : w.shape? b = some (108, 2)) (hfz : w.frozen? ⟨b, 0, none⟩ = false) :
  Calls Tryz.prog 120 #[.pointer (some ⟨b, 0, none⟩)] w fun e w' => e = .returned (.tuple #[]) ∧ w' = w.setCell ⟨b, 0, none⟩ (.pointer (some ⟨b, 0, none⟩)) := by
 obtain ⟨j, hj, hjs⟩ := Option.map_eq_some_iff.1 qd
 go_enter Tryz.func120, Tryz.ntmps120
 go_wp2
 rw [Lib.run_to_unsafe w ⟨b, 0, none⟩ Tryz.underlying105 Tryz.underlying206 hj (by rw [hjs]; decide) hsh (Nat.zero_lt_succ 1)]
 simp only [Result.andThen]
 rw [Oper.upon_value]
 go_wp2
 rw [run_callFunc_extern Tryz.func179 (by kernel_rfl) (by kernel_rfl) (by kernel_rfl) (e := Extern.AbiNoEscape.same) (by kernel_rfl)]
 rw [Lib.run_noEscape]
 simp only [Result.andThen]
 rw [Oper.upon_value]
 go_wp2
 rw [Lib.run_from_unsafe w ⟨b, 0, none⟩ Tryz.underlying206 Tryz.underlying105 hj hsh pB]
 simp only [Result.andThen]
 rw [Oper.upon_value]
 go_wp2
 go_end0
 exact ⟨rfl, rfl⟩
section
variable {P : Program} {ρ : Ren}
set_option maxHeartbeats 1000000 in
set_option maxRecDepth 100000 in
theorem RH (L : Lays.n169 P ρ) (X : Builder.Extra P ρ) (b g cap : Nat) (p : Value) (cur : Array Value) (l : List UInt8) (w : World) (h0 : l ≠ []) (hbk : w.heap[b]? = some (.cells #[p, .slice (some ⟨g, 0, none⟩) l.length cap] (ρ.t 72) (0, 0)))
  (hg : w.heap[g]? = some (.cells cur (ρ.t 5) (0, 0))) (hnc : l.length ≤ cap) (hcm : cap ≤ maxLen) (hcs : cur.size = cap) (hcell : ∀ (j : Nat) (x : UInt8), l[j]? = some x → cur[j]? = some (Value.int .u8 x.toNat)) :
  Calls P (ρ.f 169) #[.pointer (some ⟨b, 0, none⟩)] w fun e w' => e = .returned (.string ⟨l.toArray⟩) ∧ w' = w.drew.freeze ⟨g, 0, none⟩ l.length := by
 have hl0 : l.length ≠ 0 := by simpa using h0
 have c1 : w.drew.cell? ⟨b, 1, none⟩ = some (.slice (some ⟨g, 0, none⟩) l.length cap) := by
  have : w.drew.heap[b]? = some (.cells #[p, .slice (some ⟨g, 0, none⟩) l.length cap] (ρ.t 72) (0, 0)) := hbk
  rw [Lib.cell_of_heap this]; rfl
 have hSD : (Builtin.unsafeSliceData_ #[(ρ.t 37)] (ρ.t 127) #[.slice (some ⟨g, 0, none⟩) l.length cap]).run P w.drew = .ok (.pointer (some ⟨g, 0, none⟩)) w.drew :=
  Lib.run_unsafeSliceData_row _ _ _ _ _ _ (by omega)
 have hUS : (Builtin.unsafeString_ #[(ρ.t 127), (ρ.t 3)] (ρ.t 9) #[.pointer (some ⟨g, 0, none⟩), .int .i64 l.length]).run P w.drew = .ok (.string ⟨l.toArray⟩) (w.drew.freeze ⟨g, 0, none⟩ l.length) := by
  refine Lib.run_unsafeString_row w.drew (ρ.t 127) (ρ.t 3) (ρ.t 9) (ρ.t 5) L.t127 X.cellsByte g cur.size (by have hg' : w.drew.heap[g]? = some (.cells cur (ρ.t 5) (0, 0)) := hg; simp [World.shape?, hg']) l h0 (by omega) (by unfold maxLen at hcm; omega) ?_
  intro j x hx
  have hg' : w.drew.heap[g]? = some (.cells cur (ρ.t 5) (0, 0)) := hg
  rw [add_lit, Nat.zero_add, Lib.cell_of_heap hg']
  exact hcell j x hx
 have mixed := L.mixed
 have t72 := L.t72; have a72 := L.a72; have z72 := L.z72; have v72 := L.v72; have u72 := run_underlying L.t72
 have t70 := L.t70; have a70 := L.a70; have z70 := L.z70; have v70 := L.v70; have u70 := run_underlying L.t70
 have t37 := L.t37; have a37 := L.a37; have z37 := L.z37; have v37 := L.v37; have u37 := run_underlying L.t37
 have t127 := L.t127; have a127 := L.a127; have z127 := L.z127; have v127 := L.v127; have u127 := run_underlying L.t127
 have t3 := L.t3; have a3 := L.a3; have z3 := L.z3; have v3 := L.v3; have u3 := run_underlying L.t3
 have t9 := L.t9; have a9 := L.a9; have z9 := L.z9; have v9 := L.v9; have u9 := run_underlying L.t9
 have t5 := X.t5; have a5 := X.a5; have z5 := X.z5; have v5 := X.v5; have u5 := run_underlying X.t5
 go_enter L.f169, Body.n169_ntmps ρ
 go_wp2
 go_region_o
 all_goals (go_wp2; go_ret; exact ⟨rfl, rfl⟩)
set_option maxHeartbeats 2000000 in
set_option maxRecDepth 100000 in
theorem qF (L : Lays.n169 P ρ) (X : Builder.Extra P ρ) (b : Nat) (p : Value) (w : World) (hbk : w.heap[b]? = some (.cells #[p, .slice none 0 0] (ρ.t 72) (0, 0))) :
  Calls P (ρ.f 169) #[.pointer (some ⟨b, 0, none⟩)] w fun e w' => e = .returned (.string ⟨#[]⟩) ∧ w' = w.drew := by
 have hUS := Any.unsafeString_none L X
 have c1 : w.drew.cell? ⟨b, 1, none⟩ = some (.slice none 0 0) := by
  have : w.drew.heap[b]? = some (.cells #[p, .slice none 0 0] (ρ.t 72) (0, 0)) := hbk
  rw [Lib.cell_of_heap this]; rfl
 have hSD : (Builtin.unsafeSliceData_ #[(ρ.t 37)] (ρ.t 127) #[.slice none 0 0]).run P w.drew = .ok (.pointer none) w.drew := rfl
 have mixed := L.mixed
 have t72 := L.t72; have a72 := L.a72; have z72 := L.z72; have v72 := L.v72; have u72 := run_underlying L.t72
 have t70 := L.t70; have a70 := L.a70; have z70 := L.z70; have v70 := L.v70; have u70 := run_underlying L.t70
 have t37 := L.t37; have a37 := L.a37; have z37 := L.z37; have v37 := L.v37; have u37 := run_underlying L.t37
 have t127 := L.t127; have a127 := L.a127; have z127 := L.z127; have v127 := L.v127; have u127 := run_underlying L.t127
 have t3 := L.t3; have a3 := L.a3; have z3 := L.z3; have v3 := L.v3; have u3 := run_underlying L.t3
 have t9 := L.t9; have a9 := L.a9; have z9 := L.z9; have v9 := L.v9; have u9 := run_underlying L.t9
 have t5 := X.t5; have a5 := X.a5; have z5 := X.z5; have v5 := X.v5; have u5 := run_underlying X.t5
 go_enter L.f169, Body.n169_ntmps ρ
 go_wp2
 go_region_o
 all_goals (go_wp2; go_ret; exact ⟨rfl, rfl⟩)
end
section
variable {E : Env} {nb : Nat} {bl : Nat → OB} {S : Nat → Prop} {ρ : Nat → Go.Sx.Own} {w : World}
theorem zI.off (h : zI E nb bl S ρ w) {w' : World} (g : Nat) (hw : ∀ b, b ≠ g → w'.heap[b]? = w.heap[b]?) (hsz : w'.heap.size = w.heap.size) (e1 : w'.os = w.os) (e2 : w'.tape = w.tape) (e3 : w'.output = w.output) (e5 : dn w ≤ dn w')
  (hS : ¬ S g) (hρ : ∀ k, ¬ (ρ k).has g) (hg3 : E.w0.heap.size ≤ g ∨ E.X g) : zI E nb bl S ρ w' ∧ ∀ b, S b → S b ∧ w'.heap[b]? = w.heap[b]? := by
 have hS' : ∀ b, S b → S b ∧ w'.heap[b]? = w.heap[b]? := fun b hb => ⟨hb, hw b fun e => hS (e ▸ hb)⟩
 refine ⟨⟨?_, ?_, h.sup, h.sub, ?_, h.hi, ?_, h.own, h.dis, h.b0, h.nbz, h.ole⟩, hS'⟩
 ·refine h.fr.trans (fun b hb hx => hw b fun e => ?_) e1 e2 e3 (by omega) e5
  subst e
  rcases hg3 with ho | ho
  ·omega
  ·exact hx ho
 ·intro b hb; rw [hsz]; exact h.sb b hb
 ·intro b o hbo
  obtain ⟨h1, h2⟩ := h.glob b o hbo
  exact ⟨h1, (hS' b h1).2.trans h2⟩
 ·intro k hk
  exact (h.ok k hk).mono hS' (zX.refl _) fun g' hg' => hw g' fun e => hρ k (e ▸ hg')
theorem zI.drewn (h : zI E nb bl S ρ w) {w' : World} (hh : w'.heap = w.heap) (e1 : w'.os = w.os) (e2 : w'.tape = w.tape) (e3 : w'.output = w.output) (e5 : dn w ≤ dn w') :
  zI E nb bl S ρ w' ∧ ∀ b, S b → S b ∧ w'.heap[b]? = w.heap[b]? := by
 have hS' : ∀ b, S b → S b ∧ w'.heap[b]? = w.heap[b]? := fun b hb => ⟨hb, by rw [hh]⟩
 refine ⟨⟨?_, ?_, h.sup, h.sub, ?_, h.hi, ?_, h.own, h.dis, h.b0, h.nbz, h.ole⟩, hS'⟩
 ·exact h.fr.trans (fun b hb hx => by rw [hh]) e1 e2 e3 (by rw [hh]; exact Nat.le_refl _) e5
 ·intro b hb; rw [hh]; exact h.sb b hb
 ·intro b o hbo
  obtain ⟨h1, h2⟩ := h.glob b o hbo
  exact ⟨h1, (hS' b h1).2.trans h2⟩
 ·intro k hk
  exact (h.ok k hk).mono hS' (zX.refl _) fun g' hg' => by rw [hh]
end
def PQ (nb : Nat) (bl : Nat → OB) (xs : List AV) (k : Nat → (Nat → OB) → AV → Prop) : Prop :=
 match xs with
 | [.np b 0] =>
  match bl b with
  | .box t n cs =>
   zz (Nat.beq t 108 && Nat.beq n 2 && Nat.blt b nb)
    (match cs 0 with
    | .v (.pointer none) => k nb (upd bl b (.box 108 2 (zU [.np b 0, cs 1]))) (.tup 0 fun _ => .junk)
    | .np b' 0 => zz (Nat.beq b' b) (k nb bl (.tup 0 fun _ => .junk)) False
    | _ => zb b) False
  | _ => zb b
 | _ => zb xs
theorem Qj (G : List (Nat × Obj)) : tM Tryz.prog G 120 PQ := by
 refine ⟨enters_of Tryz.func120 (by kernel_rfl) rfl, ?_, ?_⟩
 ·intro nb bl xs k k' hk h
  unfold PQ at h ⊢
  split at h
  ·split at h
   ·rw [zT] at h ⊢
    refine ⟨fun hc => ?_, fun hc => (h.2 hc).elim⟩
    replace h := h.1 hc
    split at h
    ·exact hk _ _ _ h
    ·rw [zT] at h ⊢
     exact ⟨fun hb => hk _ _ _ (h.1 hb), fun hb => (h.2 hb).elim⟩
    ·exact h
   ·exact h
  ·exact h
 ·intro E nb bl S ρ w xs vs k _ hM hx h
  unfold PQ at h
  split at h
  ·rename_i b
   split at h
   ·rename_i t n cs hB
    rw [zT] at h
    cases hc : Nat.beq t 108 && Nat.beq n 2 && Nat.blt b nb with
    | false => exact (h.2 hc).elim
    | true =>
    replace h := h.1 hc
    simp only [Bool.and_eq_true] at hc
    obtain rfl := Nat.eq_of_beq_eq_true hc.1.1
    obtain rfl := Nat.eq_of_beq_eq_true hc.1.2
    have hlt : b < nb := Nat.le_of_ble_eq_true hc.2
    match vs, hx with
    | [v], ⟨hv, _⟩ =>
    cases hv with
    | dnp hd hsh => exact (hM.box (by rw [hB]; rfl) hd).elim
    | np g hk =>
    have hbk := (hM.at b).resolve_left (by rw [hk]; simp)
    rw [hB, hk] at hbk
    obtain ⟨⟨l⟩, c1, c2, c3⟩ := hbk
    match l, c2 with
    | [x, y], _ =>
    have r0 := (c3 0 (by omega)).1
    have e0 : w.cell? ⟨g, 0, none⟩ = some x := by rw [Lib.cell_of_heap c1]; rfl
    have hr : zr w S ρ (.np b 0) (.pointer (some ⟨g, 0, none⟩)) := .np g hk
    split at h
    ·rename_i hcs
     rw [hcs] at r0
     have ex : x = .pointer none := by
      have : (⟨[x, y]⟩ : Array Value).getD 0 undef = x := rfl
      rw [this] at r0
      cases r0; rfl
     subst ex
     refine (Rq g w e0 (by simp [World.shape?, c1]) (by simp [World.frozen?, c1])).mono ?_
     rintro e w' ⟨rfl, rfl⟩
     have hh : (w.setCell ⟨g, 0, none⟩ (.pointer (some ⟨g, 0, none⟩))).heap[g]? = some (.cells #[.pointer (some ⟨g, 0, none⟩), y] 108 (0, 0)) := by
      simp [World.setCell, Array.getElem?_modify, c1]
     have hw : ∀ b, b ≠ g → (w.setCell ⟨g, 0, none⟩ (.pointer (some ⟨g, 0, none⟩))).heap[b]? = w.heap[b]? := fun b hb => by
      simp [World.setCell, Array.getElem?_modify, Ne.symm hb]
     have hS : ∀ b, S b → S b ∧ (w.setCell ⟨g, 0, none⟩ (.pointer (some ⟨g, 0, none⟩))).heap[b]? = w.heap[b]? := fun b' hb' => ⟨hb', hw b' fun e' => (hM.own b g (by rw [hk]; rfl)).1 (e' ▸ hb')⟩
     obtain ⟨m1, m2⟩ := hM.write (k := b) (g := g) (B := .box 108 2 (zU [.np b 0, cs 1])) hlt (by rw [hk]; rfl) hw (by simp [World.setCell]) rfl rfl rfl (Nat.le_refl _) (by
      rw [hk]
      refine ⟨_, hh, rfl, fun i hi => ?_⟩
      match i, hi with
      | 0, _ => exact ⟨.np g hk, rfl⟩
      | 1, _ => exact ⟨((c3 1 (by omega)).1).mono hS (zX.refl _), (c3 1 (by omega)).2⟩)
     exact ⟨_, _, S, ρ, _, _, rfl, h, m1, m2, zX.refl _, .tup #[] rfl fun i hi => absurd hi (Nat.not_lt_zero _)⟩
    ·rename_i b' hcs
     rw [zT] at h
     cases hb : Nat.beq b' b with
     | false => exact (h.2 hb).elim
     | true =>
     replace h := h.1 hb
     obtain rfl := Nat.eq_of_beq_eq_true hb
     rw [hcs] at r0
     have ex : x = .pointer (some ⟨g, 0, none⟩) := by
      have : (⟨[x, y]⟩ : Array Value).getD 0 undef = x := rfl
      rw [this] at r0
      cases r0 with
      | np g' hk' => rw [hk] at hk'; cases hk'; rfl
      | dnp hd => exact (hM.box (by rw [hB]; rfl) hd).elim
     subst ex
     refine (RI g w e0).mono ?_
     rintro e w' ⟨rfl, rfl⟩
     exact ⟨_, _, S, ρ, _, _, rfl, h, hM, fun b hb => ⟨hb, rfl⟩, zX.refl _, .tup #[] rfl fun i hi => absurd hi (Nat.not_lt_zero _)⟩
    ·exact h.elim
   ·exact h.elim
  ·exact h.elim
def Rh (nb : Nat) (bl : Nat → OB) (xs : List AV) (k : Nat → (Nat → OB) → AV → Prop) : Prop :=
 match xs with
 | [.np b 0] =>
  match bl b with
  | .box t n cs =>
   zz (Nat.beq t 108 && Nat.beq n 2)
    (match cs 1 with
    | .v (.slice none 0 0) => k nb bl (.str [])
    | .ns j 0 len =>
     match bl j with
     | .arr e sz _ els => zz (Nat.beq e 5 && Nat.beq sz 1 && Nat.blt j nb) (0 < len ∧ ∃ l : List UInt8, l.length = len ∧ (∀ i, i < len → els i 0 = .v (.int .u8 (l.getD i 0).toNat)) ∧ k nb (upd bl j .dead) (.str l)) False
     | _ => zb b
    | _ => zb b) False
  | _ => zb b
 | _ => zb xs
theorem qP (G : List (Nat × Obj)) : tM Tryz.prog G 73 Rh := by
 refine ⟨enters_of Tryz.func73 (by kernel_rfl) rfl, ?_, ?_⟩
 ·intro nb bl xs k k' hk h
  unfold Rh at h ⊢
  split at h
  ·split at h
   ·rw [zT] at h ⊢
    refine ⟨fun hc => ?_, fun hc => (h.2 hc).elim⟩
    replace h := h.1 hc
    split at h
    ·exact hk _ _ _ h
    ·split at h
     ·rw [zT] at h ⊢
      refine ⟨fun hb => ?_, fun hb => (h.2 hb).elim⟩
      obtain ⟨h1, l, h2, h3, h4⟩ := h.1 hb
      exact ⟨h1, l, h2, h3, hk _ _ _ h4⟩
     ·exact h
    ·exact h
   ·exact h
  ·exact h
 ·intro E nb bl S ρ w xs vs k _ hM hx h
  unfold Rh at h
  split at h
  ·rename_i b
   split at h
   ·rename_i t n cs hB
    rw [zT] at h
    cases hc : Nat.beq t 108 && Nat.beq n 2 with
    | false => exact (h.2 hc).elim
    | true =>
    replace h := h.1 hc
    simp only [Bool.and_eq_true] at hc
    obtain rfl := Nat.eq_of_beq_eq_true hc.1
    obtain rfl := Nat.eq_of_beq_eq_true hc.2
    match vs, hx with
    | [v], ⟨hv, _⟩ =>
    cases hv with
    | dnp hd hsh => exact (hM.box (by rw [hB]; rfl) hd).elim
    | np g hk =>
    have hbk := (hM.at b).resolve_left (by rw [hk]; simp)
    rw [hB, hk] at hbk
    obtain ⟨⟨l⟩, c1, c2, c3⟩ := hbk
    match l, c2 with
    | [x, y], _ =>
    have r1 := (c3 1 (by omega)).1
    have ey : (⟨[x, y]⟩ : Array Value).getD 1 undef = y := rfl
    rw [ey] at r1
    split at h
    ·rename_i hcs
     rw [hcs] at r1
     obtain rfl := zi r1
     refine (qF Tryz.lays169 Tryz.Builder_Extra_169 g x w c1).mono ?_
     rintro e w' ⟨rfl, rfl⟩
     obtain ⟨m1, m2⟩ := zI.drewn hM (w' := w.drew) rfl rfl rfl rfl (ub w 1)
     exact ⟨_, _, S, ρ, _, _, rfl, h, m1, m2, zX.refl _, .str []⟩
    ·rename_i j len hcs
     split at h
     ·rename_i el sz L els hA
      rw [zT] at h
      cases hb : Nat.beq el 5 && Nat.beq sz 1 && Nat.blt j nb with
      | false => exact (h.2 hb).elim
      | true =>
      obtain ⟨h1, l, h2, h3, h4⟩ := h.1 hb
      simp only [Bool.and_eq_true] at hb
      obtain rfl := Nat.eq_of_beq_eq_true hb.1.1
      obtain rfl := Nat.eq_of_beq_eq_true hb.1.2
      have hj : j < nb := Nat.le_of_ble_eq_true hb.2
      rw [hcs] at r1
      cases r1 with
      | dns hd hsh => exact (hM.arr (by rw [hA]; rfl) hd).elim
      | nsr g' cap sz2 L' sub hk' hl hcap =>
       have hbj := (hM.at j).resolve_left (by rw [hk']; simp)
       rw [hA, hk'] at hbj
       exact hbj.elim
      | nsv q o cap hk' =>
       have hbj := (hM.at j).resolve_left (by rw [hk']; simp)
       rw [hA, hk'] at hbj
       exact hbj.elim
      | ns0 => exact absurd h1 (Nat.lt_irrefl _)
      | nsn => exact absurd h1 (Nat.lt_irrefl _)
      | ns g' base cap sz' L' hk' hl hcap =>
       subst h2
       have hb0 := hM.b0 _ _ _ _ _ _ hk'
       subst hb0
       have hbj := (hM.at j).resolve_left (by rw [hk']; simp)
       rw [hA, hk'] at hbj
       obtain ⟨e1, e2, q1, q2, c, q3, q4, q5⟩ := hbj
       subst e1; subst e2
       simp only [Nat.zero_add] at q4 q5 hl
       have hl0 : l ≠ [] := fun e => by rw [e] at h1; exact absurd h1 (Nat.lt_irrefl _)
       have hcell : ∀ (i : Nat) (z : UInt8), l[i]? = some z → c[i]? = some (Value.int .u8 z.toNat) := fun i z hz => by
        have hi : i < l.length := (List.getElem?_eq_some_iff.1 hz).1
        have r := (q5 i 0 (by omega) (by omega)).1
        rw [h3 i hi] at r
        have e3 := zi r
        rw [Nat.mul_one, Nat.add_zero, List.getD_eq_getElem?_getD, hz, Option.getD_some] at e3
        have hlt : i < c.size := by omega
        rw [Array.getD_eq_getD_getElem?, Array.getElem?_eq_getElem hlt, Option.getD_some] at e3
        rw [Array.getElem?_eq_getElem hlt, e3]
       have hrun := RH Tryz.lays169 Tryz.Builder_Extra_169 g g' cap x c l w hl0 (by have := c1; simp only [Nat.zero_add, Nat.zero_mul, Nat.sub_zero] at this; exact this) q3 (by omega) q2 (by omega) hcell
       refine hrun.mono ?_
       rintro e w' ⟨rfl, rfl⟩
       obtain ⟨k1, k2, k3⟩ := hM.kill j hj false
       have k1' : zI E nb (upd bl j .dead) S (upd ρ j .dead) w := by
        have : (fun b => S b ∨ (false = true ∧ (ρ j).has b)) = S := by funext b; simp
        rw [this] at k1; exact k1
       obtain ⟨o1, o2⟩ := hM.own j g' (by rw [hk']; rfl)
       obtain ⟨m1, m2⟩ := zI.off k1' (w' := w.drew.freeze ⟨g', 0, none⟩ l.length) g' (fun b hb => by
         unfold World.freeze
         split
         ·rfl
         ·show (w.heap.modify g' _)[b]? = w.heap[b]?
          simp [Array.getElem?_modify, Ne.symm hb]) (by
         unfold World.freeze
         split
         ·rfl
         ·show (w.heap.modify g' _).size = w.heap.size
          simp) (by unfold World.freeze; split <;> rfl) (by unfold World.freeze; split <;> rfl) (by unfold World.freeze; split <;> rfl) (by unfold World.freeze; split <;> exact ub w 1)
         o1 (fun i hi => by
          by_cases e : i = j
          ·subst e; rw [upd_same] at hi; exact hi.elim
          ·rw [zx _ _ e] at hi; exact e (hM.dis i j g' hi (by rw [hk']; rfl))) o2
       exact ⟨_, _, S, _, _, _, rfl, h4, m1, m2, k2, .str l⟩
     ·exact h.elim
    ·exact h.elim
   ·exact h.elim
  ·exact h.elim
end Go.Te

namespace Go.Te
open Go Go.Sx Go.Proofs Go.Ar Go.Lib
set_option maxRecDepth 100000
set_option maxHeartbeats 4000000
end Go.Te

namespace Go.Te
open Go Go.Sx Go.Proofs Go.Ar
set_option maxRecDepth 100000
set_option maxHeartbeats 4000000
end Go.Te

namespace Go.Te
open Go Go.Sx Go.Proofs Go.Ar
set_option maxRecDepth 100000
set_option maxHeartbeats 4000000
structure oo where
 z : Nat
 q : List Int
 r : Int
structure oS where
 q : Int
 r : Int
end Go.Te

namespace Go.Te
open Go Go.Sx Go.Proofs Go.Ar
set_option maxRecDepth 100000
set_option maxHeartbeats 4000000
structure oL where
 i : Nat
 c : Int
 w : List Int
structure oU where
 j : Nat
 q : List Int
 u : List Int
end Go.Te

namespace Go.Te
open Go Go.Sx Go.Proofs Go.Ar
set_option maxRecDepth 100000
set_option maxHeartbeats 4000000
end Go.Te

namespace Go.Te
open Go Go.Sx Go.Proofs Go.Ar
set_option maxRecDepth 100000
set_option maxHeartbeats 4000000
structure oK where
 x : Int
 y : Int
structure oW where
 x : Nat
 y : Nat
end Go.Te

namespace Go.Te
open Go Go.Sx Go.Proofs Go.Ar Go.Lib
set_option maxRecDepth 100000
set_option maxHeartbeats 4000000
structure oM where
 x : Int
 y : Int
end Go.Te

namespace Go.Te
open Go Go.Sx Go.Proofs Go.Ar
set_option maxRecDepth 100000
set_option maxHeartbeats 4000000
def xX (s : zp) : zp := s.takeWhile zC
def Z9 (s : zp) : Bool := ZH (xX s) && leB ((xX s).length : Int) 8
def yo (s : zp) : Int := bif Z9 s then (zP (xX s) : Int) else 0
def ZK (s : zp) : zp := bif Z9 s then s.drop (xX s).length else []
theorem uu {a b : zp} (h : ∀ c ∈ a, zC c = true) : xX (a ++ b) = a ++ xX b := by
 unfold xX
 exact List.takeWhile_append_of_pos h
theorem Ww {s : zp} {z : Nat} (h1 : z ≤ s.length) (h2 : ∀ i, i < z → zC (s.getD i 0) = true) : ∀ c ∈ s.take z, zC c = true := fun c hc => by
 obtain ⟨i, hi, e⟩ := uh hc
 rw [List.length_take] at hi
 rw [← e, getD_takeS (by omega)]
 exact h2 i (by omega)
theorem qg {s : zp} {z : Nat} (h1 : z ≤ s.length) (h2 : ∀ i, i < z → zC (s.getD i 0) = true) (h3 : z = s.length ∨ zC (s.getD z 0) = false) : xX s = s.take z := by
 conv => lhs; rw [← List.take_append_drop z s]
 rw [uu (Ww h1 h2)]
 have : xX (s.drop z) = [] := by
  by_cases hz : z = s.length
  ·rw [List.drop_of_length_le (by omega)]; rfl
  ·rw [vO (by omega)]
   unfold xX
   rw [List.takeWhile_cons, h3.resolve_left hz]
   rfl
 rw [this, List.append_nil]
theorem qc {s : zp} {z : Nat} (h1 : z ≤ s.length) (h2 : ∀ i, i < z → zC (s.getD i 0) = true) : z ≤ (xX s).length := by
 have : xX s = s.take z ++ xX (s.drop z) := by
  conv => lhs; rw [← List.take_append_drop z s]
  exact uu (Ww h1 h2)
 rw [this, List.length_append, List.length_take]
 omega
def qV (x y : Int) : Int := bif leB 0 x && leB 0 y then (Nat.gcd x.toNat y.toNat : Int) else 0
end Go.Te

namespace Go.Te
open Go Go.Sx Go.Proofs Go.Ar Go.Lib
set_option maxRecDepth 100000
set_option maxHeartbeats 4000000
end Go.Te

namespace Go.Te
open Go Go.Sx Go.Proofs Go.Ar
set_option maxRecDepth 100000
set_option maxHeartbeats 4000000
def wD (a : zp) : Bool := tC a == 0 && leB ((Zw (zo a)).length : Int) 8 && leB ((Ze (zo a)).length : Int) 8
theorem Xd (s : zp) : xX s ++ s.drop (xX s).length = s := by
 have h : s = s.takeWhile zC ++ s.dropWhile zC := (List.takeWhile_append_dropWhile).symm
 have gen : ∀ t u : zp, t ++ u = s → s.drop t.length = u := by
  rintro t u rfl
  exact List.drop_left
 have h2 : s.drop (xX s).length = s.dropWhile zC := gen _ _ h.symm
 rw [h2]
 exact h.symm
theorem QU (s : zp) : ∀ c ∈ xX s, zC c = true := fun c hc => List.all_eq_true.1 (List.all_takeWhile (l := s) (p := zC)) c hc
theorem YB {s : zp} : Z9 s = true ↔ ZH (xX s) = true ∧ (xX s).length ≤ 8 := by
 unfold Z9
 rw [Bool.and_eq_true, Zk]
 exact ⟨fun h => ⟨h.1, by omega⟩, fun h => ⟨h.1, by omega⟩⟩
theorem xD {s : zp} (h : Z9 s = true) : yo s = (zP (xX s) : Int) ∧ ZK s = s.drop (xX s).length ∧ xX s ++ ZK s = s ∧ 0 ≤ yo s ∧ yo s ≤ 99999999 := by
 have e1 : yo s = (zP (xX s) : Int) := by unfold yo; rw [h]; rfl
 have e2 : ZK s = s.drop (xX s).length := by unfold ZK; rw [h]; rfl
 obtain ⟨h1, h2⟩ := YB.1 h
 have b := Ty h1 (k := 8) h2
 rw [show 10 ^ 8 = 100000000 from by decide] at b
 exact ⟨e1, e2, by rw [e2]; exact Xd s, by omega, by omega⟩
theorem Tm {s : zp} (h : ZH s = true) : xX s = s := by
 have := uu (a := s) (b := []) (Zv.1 h).2.1
 rw [List.append_nil] at this
 rw [this]
 show s ++ [] = s
 simp
theorem uc {s : zp} (h : ZH s = true) (hl : s.length ≤ 8) : Z9 s = true ∧ yo s = (zP s : Int) ∧ ZK s = [] := by
 have ht := Tm h
 have ho : Z9 s = true := YB.2 (by rw [ht]; exact ⟨h, hl⟩)
 obtain ⟨n1, n2, _⟩ := xD ho
 rw [ht] at n1 n2
 exact ⟨ho, n1, by rw [n2]; simp⟩
theorem Ws {s : zp} (h : Z9 s = true) (hr : ZK s = []) : ZH s = true ∧ s.length ≤ 8 ∧ yo s = (zP s : Int) := by
 obtain ⟨n1, n2, n3, _⟩ := xD h
 rw [hr, List.append_nil] at n3
 obtain ⟨h1, h2⟩ := YB.1 h
 rw [n3] at h1 h2 n1
 exact ⟨h1, h2, n1⟩
theorem xP {a : zp} : wD a = true ↔ XI a = true ∧ (Zw (zo a)).length ≤ 8 ∧ (Ze (zo a)).length ≤ 8 ∧ (zD (zo a) = true → Nat.gcd (zP (Zw (zo a))) (zP (Ze (zo a))) = 1) := by
 unfold wD
 rw [Bool.and_eq_true, Bool.and_eq_true, Zk, Zk, beq_iff_eq]
 constructor
 ·rintro ⟨⟨h1, h2⟩, h3⟩
  cases hf : XI a with
  | false => rw [SB hf] at h1; cases h1
  | true =>
   refine ⟨rfl, by omega, by omega, fun hs => ?_⟩
   rw [uJ hf ⟨by omega, by omega⟩ hs] at h1
   cases hg : Nat.beq (Nat.gcd (zP (Zw (zo a))) (zP (Ze (zo a)))) 1 with
   | true => exact Nat.eq_of_beq_eq_true hg
   | false => rw [hg] at h1; cases h1
 ·rintro ⟨h1, h2, h3, h4⟩
  refine ⟨⟨?_, by omega⟩, by omega⟩
  cases hs : zD (zo a) with
  | false => exact Rv h1 (by omega) hs
  | true =>
   rw [uJ h1 ⟨by omega, by omega⟩ hs, h4 hs]
   rfl
theorem xp {a : zp} : XI a = true ↔ ZH (Zw (zo a)) = true ∧ ¬ (YD a = true ∧ Zw (zo a) = [48]) ∧ (zD (zo a) = true → ZH (Ze (zo a)) = true ∧ Ze (zo a) ≠ [48] ∧ Ze (zo a) ≠ [49]) := by
 unfold XI
 rw [Bool.and_eq_true, Bool.and_eq_true, Bool.not_eq_true', Bool.and_eq_false_iff, Bool.or_eq_true, Bool.and_eq_true, Bool.and_eq_true, Bool.not_eq_true', Bool.not_eq_true', Bool.not_eq_true', beq_eq_false_iff_ne, beq_eq_false_iff_ne, beq_eq_false_iff_ne]
 constructor
 ·rintro ⟨⟨h1, h2⟩, h3⟩
  refine ⟨h1, fun h => ?_, fun h => ?_⟩
  ·rcases h2 with h2 | h2
   ·rw [h.1] at h2; cases h2
   ·exact h2 h.2
  ·rcases h3 with h3 | h3
   ·rw [h] at h3; cases h3
   ·exact ⟨h3.1.1, h3.1.2, h3.2⟩
 ·rintro ⟨h1, h2, h3⟩
  refine ⟨⟨h1, ?_⟩, ?_⟩
  ·cases hm : YD a with
   | false => exact .inl rfl
   | true => exact .inr fun e => h2 ⟨hm, e⟩
  ·cases hs : zD (zo a) with
   | false => exact .inl rfl
   | true => have := h3 hs; exact .inr ⟨⟨this.1, this.2.1⟩, this.2.2⟩
theorem sV {s : zp} (h : ZH s = true) : zP s = 0 ↔ s = [48] := ⟨fun e => Vs h e, fun e => by rw [e]; decide⟩
theorem pC {s : zp} (h : ZH s = true) : zP s = 1 ↔ s = [49] := ⟨fun e => by
 have := Zb h
 rw [e, z6 (by omega)] at this
 exact this.symm, fun e => by rw [e]; decide⟩
structure NF (a o : zp) : Prop where
 f0 : Z9 o = false → wD a = false
 f1 : Z9 o = true → 0 ≤ yo o ∧ yo o ≤ 99999999
 f2 : Z9 o = true → ZK o = [] → wD a = !(YD a && yo o == 0) ∧ yo o = (zP (Zw (zo a)) : Int) ∧ tF a = 1
 f3 : Z9 o = true → ZK o ≠ [] → (ZK o).getD 0 0 ≠ 47 → wD a = false
 f5 : Z9 o = true → (YD a && yo o == 0) = true → wD a = false
 f6 : Z9 o = true → ZK o ≠ [] → (ZK o).getD 0 0 = 47 → Z9 ((ZK o).drop 1) = false → wD a = false
 f7 : Z9 o = true → ZK o ≠ [] → (ZK o).getD 0 0 = 47 → Z9 ((ZK o).drop 1) = true →
  (wD a = true ↔ (YD a && yo o == 0) = false ∧ ZK ((ZK o).drop 1) = [] ∧ 2 ≤ yo ((ZK o).drop 1) ∧ qV (yo o) (yo ((ZK o).drop 1)) = 1) ∧ yo o = (zP (Zw (zo a)) : Int) ∧ (wD a = true → (tF a : Int) = yo ((ZK o).drop 1))
 fr : tQ a = bif YD a then -(zP (Zw (zo a)) : Int) else (zP (Zw (zo a)) : Int)
theorem uv {a : zp} (h : wD a = true) : Z9 (zo a) = true ∧ yo (zo a) = (zP (Zw (zo a)) : Int) ∧ ZK (zo a) = (bif zD (zo a) then 47 :: Ze (zo a) else []) := by
 obtain ⟨h1, h2, h3, h4⟩ := xP.1 h
 obtain ⟨g1, g2, g3⟩ := xp.1 h1
 have ht : xX (zo a) = Zw (zo a) ∧ (zo a).drop (Zw (zo a)).length = (bif zD (zo a) then 47 :: Ze (zo a) else []) := by
  cases hs : zD (zo a) with
  | false =>
   obtain ⟨c1, c2⟩ := W0 hs
   rw [c1] at g1 ⊢
   exact ⟨Tm g1, by simp⟩
  | true =>
   have he := Ud hs
   have e1 : xX (zo a) = Zw (zo a) := by
    conv => lhs; rw [he]
    rw [uu (Zv.1 g1).2.1]
    show Zw (zo a) ++ [] = _
    rw [List.append_nil]
   refine ⟨e1, ?_⟩
   conv => lhs; arg 2; rw [he]
   rw [List.drop_left]
   rfl
 have ho : Z9 (zo a) = true := YB.2 (by rw [ht.1]; exact ⟨g1, h2⟩)
 obtain ⟨n1, n2, _⟩ := xD ho
 rw [ht.1] at n1 n2
 exact ⟨ho, n1, by rw [n2, ht.2]⟩
theorem R5 {a : zp} : tQ a = (bif YD a then -(zP (Zw (zo a)) : Int) else (zP (Zw (zo a)) : Int)) ∧ tF a = (bif zD (zo a) then zP (Ze (zo a)) else 1) := by
 obtain ⟨_, _, _, _, _, h6, h7⟩ := YF a
 exact ⟨h6, h7⟩
theorem nf (a : zp) : NF a (zo a) := by
 obtain ⟨r1, r2⟩ := R5 (a := a)
 have neg : Z9 (zo a) = true → (YD a && yo (zo a) == 0) = true → wD a = false := fun h hz => Bool.eq_false_iff.2 fun hb => by
  obtain ⟨_, n1, _⟩ := uv hb
  obtain ⟨h1, _⟩ := xP.1 hb
  obtain ⟨g1, g2, _⟩ := xp.1 h1
  rw [Bool.and_eq_true, beq_iff_eq, n1] at hz
  exact g2 ⟨hz.1, (sV g1).1 (by omega)⟩
 have sm : Z9 (zo a) = true → ZK (zo a) ≠ [] → (ZK (zo a)).getD 0 0 = 47 → Zw (zo a) = xX (zo a) ∧ Ze (zo a) = (ZK (zo a)).drop 1 ∧ zD (zo a) = true := fun h h1 h2 => by
  obtain ⟨n1, n2, n3, _⟩ := xD h
  have e : ZK (zo a) = 47 :: (ZK (zo a)).drop 1 := by
   match ZK (zo a), h1, h2 with
   | c :: r, _, h2 => rw [show c = 47 from h2]; rfl
  rw [e] at n3
  have := RR (a := xX (zo a)) (b := (ZK (zo a)).drop 1) fun c hc => Sn (QU _ c hc)
  rw [n3] at this
  exact this
 refine ⟨fun h => Bool.eq_false_iff.2 fun hb => ?_, fun h => (xD h).2.2.2, fun h h1 => ?_, fun h h1 h2 => Bool.eq_false_iff.2 fun hb => ?_, neg, fun h h1 h2 h3 => Bool.eq_false_iff.2 fun hb => ?_, fun h h1 h2 h3 => ?_, r1⟩
 ·rw [(uv hb).1] at h; cases h
 ·obtain ⟨b1, b2, b3⟩ := Ws h h1
  obtain ⟨c1, c2, c3⟩ := Q7 (s := zo a) fun i hi e => by
   have := (Zv.1 b1).2.1 _ (SL (s := zo a) (i := i) hi)
   rw [e] at this
   cases this
  rw [c2, r2, c1]
  refine ⟨?_, b3, rfl⟩
  rw [Bool.eq_iff_iff, xP, xp, c1, c2, c3, Bool.not_eq_true', b3]
  constructor
  ·rintro ⟨⟨_, g2, _⟩, _⟩
   rw [Bool.and_eq_false_iff]
   cases hm : YD a with
   | false => exact .inl rfl
   | true => exact .inr (beq_eq_false_iff_ne.2 fun e => g2 ⟨hm, (sV b1).1 (by omega)⟩)
  ·intro g
   refine ⟨⟨b1, fun g2 => ?_, fun e => by cases e⟩, b2, by simp, fun e => by cases e⟩
   rw [g2.1, g2.2] at g
   cases g
 ·have := (uv hb).2.2
  rw [this] at h1 h2
  cases hs : zD (zo a) with
  | false => rw [hs] at h1; exact h1 rfl
  | true => rw [hs] at h2; exact h2 rfl
 ·obtain ⟨c1, c2, c3⟩ := sm h h1 h2
  obtain ⟨k1, k2, k3, _⟩ := xP.1 hb
  have d1 := (xp.1 k1).2.2 c3
  rw [c2] at d1 k3
  rw [(uc d1.1 k3).1] at h3
  cases h3
 ·obtain ⟨c1, c2, c3⟩ := sm h h1 h2
  obtain ⟨n1, _, _, _⟩ := xD h
  obtain ⟨o1, o2⟩ := YB.1 h
  rw [c1, r2, c3, c2]
  obtain ⟨m1, _, _, m4, m5⟩ := xD h3
  have hgO : qV (yo (zo a)) (yo ((ZK (zo a)).drop 1)) = (Nat.gcd (yo (zo a)).toNat (yo ((ZK (zo a)).drop 1)).toNat : Int) := by
   unfold qV
   rw [(Zk _ _).2 (xD h).2.2.2.1, (Zk _ _).2 m4]
   rfl
  have key : wD a = true ↔ (YD a && yo (zo a) == 0) = false ∧ ZK ((ZK (zo a)).drop 1) = [] ∧ 2 ≤ yo ((ZK (zo a)).drop 1) ∧ qV (yo (zo a)) (yo ((ZK (zo a)).drop 1)) = 1 := by
   rw [xP, xp, c1, c2, c3, hgO]
   constructor
   ·rintro ⟨⟨_, g2, g3⟩, g4, g5, g6⟩
    obtain ⟨g7, g8, g9⟩ := g3 rfl
    obtain ⟨q1, q2, q3⟩ := uc g7 g5
    have z0 : zP ((ZK (zo a)).drop 1) ≠ 0 := fun e => g8 ((sV g7).1 e)
    have z1 : zP ((ZK (zo a)).drop 1) ≠ 1 := fun e => g9 ((pC g7).1 e)
    refine ⟨?_, q3, by omega, ?_⟩
    ·rw [Bool.and_eq_false_iff]
     cases hm : YD a with
     | false => exact .inl rfl
     | true => exact .inr (beq_eq_false_iff_ne.2 fun e => g2 ⟨hm, (sV o1).1 (by omega)⟩)
    ·rw [n1, q2, Int.toNat_natCast, Int.toNat_natCast, g6 rfl]; rfl
   ·rintro ⟨g1, g2, g3, g4⟩
    obtain ⟨q1, q2, q3⟩ := Ws h3 g2
    have z0 : zP ((ZK (zo a)).drop 1) ≠ 0 := by omega
    have z1 : zP ((ZK (zo a)).drop 1) ≠ 1 := by omega
    refine ⟨⟨o1, fun e => ?_, fun _ => ⟨q1, fun e => z0 ((sV q1).2 e), fun e => z1 ((pC q1).2 e)⟩⟩, o2, q2, fun _ => ?_⟩
    ·rw [e.1, n1, (sV o1).2 e.2] at g1
     cases g1
    ·rw [n1, q3, Int.toNat_natCast, Int.toNat_natCast] at g4
     omega
  refine ⟨key, n1, fun hb => ?_⟩
  obtain ⟨_, g2, _⟩ := key.1 hb
  obtain ⟨q1, q2, q3⟩ := Ws h3 g2
  rw [q3]
  rfl
end Go.Te

namespace Go.Te
open Go Go.Sx Go.Proofs Go.Ar
set_option maxRecDepth 100000
set_option maxHeartbeats 4000000
end Go.Te

namespace Go.Proofs
open Go.Shelf
def Tryz.lays138_ren : Go.Shelf.Ren := ⟨fun | 138 => 26 | 195 => 77 | 218 => 78 | 143 => 79 | 219 => 123 | 217 => 174 | 225 => 181 | 224 => 182 | 267 => 183 | 266 => 218 | 314 => 229 | n => n, fun | 9 => 9 | 3 => 3 | 4 => 4 | 5 => 5 | 0 => 0 | 46 => 155 | 146 => 243 | 51 => 201 | n => n, fun | 1 => 0 | n => n⟩
theorem Tryz.lays138 : Go.Proofs.Lays.n138 Tryz.prog Tryz.lays138_ren := {
 mixed := by kernel_rfl
 f138 := Tryz.func26.trans (congrArg some (by kernel_rfl))
 f143 := Tryz.func79.trans (congrArg some (by kernel_rfl))
 f195 := Tryz.func77.trans (congrArg some (by kernel_rfl))
 f217 := Tryz.func174.trans (congrArg some (by kernel_rfl))
 f218 := Tryz.func78.trans (congrArg some (by kernel_rfl))
 f219 := Tryz.func123.trans (congrArg some (by kernel_rfl))
 f224 := Tryz.func182.trans (congrArg some (by kernel_rfl))
 f225 := Tryz.func181.trans (congrArg some (by kernel_rfl))
 f266 := Tryz.func218.trans (congrArg some (by kernel_rfl))
 f267 := Tryz.func183.trans (congrArg some (by kernel_rfl))
 f314 := Tryz.func229.trans (congrArg some (by kernel_rfl))
 t0 := Tryz.underlying0
 a0 := Tryz.isAgg0
 z0 := Tryz.sizeOf0
 v0 := Tryz.zeroValue0
 t3 := Tryz.underlying3
 a3 := Tryz.isAgg3
 z3 := Tryz.sizeOf3
 v3 := Tryz.zeroValue3
 t4 := Tryz.underlying4
 a4 := Tryz.isAgg4
 z4 := Tryz.sizeOf4
 v4 := Tryz.zeroValue4
 t5 := Tryz.underlying5
 a5 := Tryz.isAgg5
 z5 := Tryz.sizeOf5
 v5 := Tryz.zeroValue5
 t9 := Tryz.underlying9
 a9 := Tryz.isAgg9
 z9 := Tryz.sizeOf9
 v9 := Tryz.zeroValue9
 t46 := Tryz.underlying155
 a46 := Tryz.isAgg155
 z46 := Tryz.sizeOf155
 v46 := Tryz.zeroValue155
 t51 := Tryz.underlying201
 a51 := Tryz.isAgg201
 z51 := Tryz.sizeOf201
 v51 := Tryz.zeroValue201
 t146 := Tryz.underlying243
 a146 := Tryz.isAgg243
 z146 := Tryz.sizeOf243
 v146 := Tryz.zeroValue243
 g1 := by kernel_rfl }
open Go.RowKit Go.Lib in
theorem Tryz.strings_Count_one (s : ByteArray) (c : UInt8) (w : World) :
  Calls Tryz.prog 26 #[.string s, .string ⟨#[c]⟩] w fun e w' => e = .returned (.int .i64 (Lib.countByte s.data.toList c)) ∧ w' = w := Any.strings_Count_one Tryz.lays138 s c w
def Tryz.lays137_ren : Go.Shelf.Ren := ⟨fun | 137 => 116 | 217 => 174 | 266 => 218 | n => n, fun | 9 => 9 | 5 => 5 | 3 => 3 | n => n, fun | n => n⟩
theorem Tryz.lays137 : Go.Proofs.Lays.n137 Tryz.prog Tryz.lays137_ren := {
 mixed := by kernel_rfl
 f137 := Tryz.func116.trans (congrArg some (by kernel_rfl))
 f217 := Tryz.func174.trans (congrArg some (by kernel_rfl))
 f266 := Tryz.func218.trans (congrArg some (by kernel_rfl))
 t3 := Tryz.underlying3
 a3 := Tryz.isAgg3
 z3 := Tryz.sizeOf3
 v3 := Tryz.zeroValue3
 t5 := Tryz.underlying5
 a5 := Tryz.isAgg5
 z5 := Tryz.sizeOf5
 v5 := Tryz.zeroValue5
 t9 := Tryz.underlying9
 a9 := Tryz.isAgg9
 z9 := Tryz.sizeOf9
 v9 := Tryz.zeroValue9 }
open Go.RowKit in
theorem Tryz.strings_IndexByte (s : ByteArray) (c : Int) (w : World) :
  Calls Tryz.prog 116 #[.string s, .int .u8 c] w fun e w' => e = .returned (.int .i64 (Lib.indexByte s.data.toList c.toNat.toUInt8)) ∧ w' = w := Any.strings_IndexByte Tryz.lays137 s c w
def Tryz.lays207_ren : Go.Shelf.Ren := ⟨fun | 207 => 175 | n => n, fun | 9 => 9 | 4 => 4 | 3 => 3 | n => n, fun | n => n⟩
theorem Tryz.lays207 : Go.Proofs.Lays.n207 Tryz.prog Tryz.lays207_ren := {
 mixed := by kernel_rfl
 f207 := Tryz.func175.trans (congrArg some (by kernel_rfl))
 t3 := Tryz.underlying3
 a3 := Tryz.isAgg3
 z3 := Tryz.sizeOf3
 v3 := Tryz.zeroValue3
 t4 := Tryz.underlying4
 a4 := Tryz.isAgg4
 z4 := Tryz.sizeOf4
 v4 := Tryz.zeroValue4
 t9 := Tryz.underlying9
 a9 := Tryz.isAgg9
 z9 := Tryz.sizeOf9
 v9 := Tryz.zeroValue9 }
open Go.RowKit Go.Lib in
theorem Tryz.stringslite_HasSuffix (s p : ByteArray) (w : World) (hs : s.size ≤ 9223372036854775807) :
  Calls Tryz.prog 175 #[.string s, .string p] w fun e w' => e = .returned (.bool (Lib.hasSuffix s.data.toList p.data.toList)) ∧ w' = w := Any.stringslite_HasSuffix Tryz.lays207 s p w hs
end Go.Proofs

namespace Go.Te
open Go Go.Sx Go.Proofs Go.Ar Go.RowKit
set_option maxRecDepth 100000
set_option maxHeartbeats 4000000
def Tf : List AV → Option (List zS × AV)
 | [.str s, .str [c]] => some ([], .i (s.count c : Nat))
 | _ => none
theorem QZ : zn Tryz.prog [] 26 Tf := by
 intro xs ps r h hp
 unfold Tf at h
 split at h
 ·rename_i s c
  cases h
  refine ⟨enters_of Tryz.func26 (by kernel_rfl) rfl, fun w S vals hS hg hr => ?_⟩
  match vals, hr with
  | [v, v2], ⟨hv, hv2, _⟩ =>
  obtain rfl := ZZ hv
  obtain rfl := ZZ hv2
  refine (Tryz.strings_Count_one ⟨s.toArray⟩ c w).mono ?_
  rintro e w' ⟨rfl, rfl⟩
  exact ⟨⟨Below.refl _ _, Nat.le_refl _⟩, _, rfl, .v _⟩
 ·cases h
def SK : List AV → Option (List zS × AV)
 | [.str s, .v (.int .u8 n)] => some ([], .i (Lib.indexByte s n.toNat.toUInt8))
 | _ => none
theorem pK : zn Tryz.prog [] 116 SK := by
 intro xs ps r h hp
 unfold SK at h
 split at h
 ·rename_i s n
  cases h
  refine ⟨enters_of Tryz.func116 (by kernel_rfl) rfl, fun w S vals hS hg hr => ?_⟩
  match vals, hr with
  | [v, v2], ⟨hv, hv2, _⟩ =>
  obtain rfl := ZZ hv
  obtain rfl := zi hv2
  refine (Tryz.strings_IndexByte ⟨s.toArray⟩ n w).mono ?_
  rintro e w' ⟨rfl, rfl⟩
  exact ⟨⟨Below.refl _ _, Nat.le_refl _⟩, _, rfl, .v _⟩
 ·cases h
theorem vp (c : UInt8) : ∀ s : zp, (∃ a b, s = a ++ c :: b ∧ c ∉ a ∧ Lib.indexByte s c = (a.length : Nat)) ∨ (c ∉ s ∧ Lib.indexByte s c < 0)
 | [] => .inr ⟨by simp, by simp [Lib.indexByte]⟩
 | x :: r => by
  unfold Lib.indexByte
  by_cases hx : x = c
  ·subst hx
   exact .inl ⟨[], r, rfl, by simp, by simp⟩
  ·have hx' : (x == c) = false := beq_eq_false_iff_ne.2 hx
   simp only [hx', hx, if_false, Bool.false_eq_true, ↓reduceIte]
   rcases vp c r with ⟨a, b, e, h1, h2⟩ | ⟨h1, h2⟩
   ·refine .inl ⟨x :: a, b, by rw [e]; rfl, fun h => ?_, ?_⟩
    ·rcases List.mem_cons.1 h with h | h
     ·exact hx h.symm
     ·exact h1 h
    ·rw [h2]
     simp
   ·have ge := Lib.indexByte_ge r c
    have : Lib.indexByte r c = -1 := by omega
    refine .inr ⟨fun h => ?_, by simp [this]⟩
    rcases List.mem_cons.1 h with h | h
    ·exact hx h.symm
    ·exact h1 h
structure xU where
 k : Nat
 cur : zp
def oz (s : zp) (k : Nat) : OB := .arr 9 1 (s.count 32 + 1) fun i _ => .str (if i < k then (zN 32 s).getD i [] else [])
structure rE (s : zp) (z : xU) : Prop where
 k : z.k ≤ s.count 32
 d : (zN 32 s).drop z.k = zN 32 z.cur
 l : z.cur.length ≤ s.length
theorem rE.step {s a b : zp} {k : Nat} (h : rE s ⟨k, a ++ 32 :: b⟩) (ha : (32 : UInt8) ∉ a) (hk : k < s.count 32) : rE s ⟨k + 1, b⟩ ∧ (zN 32 s).getD k [] = a := by
 have hd := h.d
 simp only [Yy ha] at hd
 refine ⟨⟨hk, ?_, ?_⟩, ?_⟩
 ·show (zN 32 s).drop (k + 1) = _
  rw [← List.drop_drop, hd]
  rfl
 ·have := h.l
  simp at this ⊢
  omega
 ·rw [List.getD_eq_getElem?_getD]
  have : (zN 32 s)[k]? = ((zN 32 s).drop k)[0]? := by rw [List.getElem?_drop]; rfl
  rw [this, hd]
  rfl
theorem rE.last {s c : zp} {k : Nat} (h : rE s ⟨k, c⟩) (hk : k = s.count 32) : (32 : UInt8) ∉ c ∧ (zN 32 s).getD k [] = c := by
 have hd := h.d
 simp only at hd
 have hl := congrArg List.length hd
 rw [List.length_drop, yN, yN] at hl
 have h0 : c.count 32 = 0 := by omega
 have hn : (32 : UInt8) ∉ c := List.count_eq_zero.1 h0
 refine ⟨hn, ?_⟩
 rw [Xo hn] at hd
 rw [List.getD_eq_getElem?_getD]
 have : (zN 32 s)[k]? = ((zN 32 s).drop k)[0]? := by rw [List.getElem?_drop]; rfl
 rw [this, hd]
 rfl
theorem rE.more {s c : zp} {k : Nat} (h : rE s ⟨k, c⟩) (hk : k < s.count 32) : (32 : UInt8) ∈ c := by
 have hl := congrArg List.length h.d
 simp only at hl
 rw [List.length_drop, yN, yN] at hl
 exact List.count_pos_iff.1 (by omega)
def Qq (s : zp) : Z8 :=
 .two .auto (.two .auto (.two .auto (.two .auto (.two .auto (.two .auto (.two .auto (.two .auto (.two (.one (.loop xU (fun σ z => [(1, σ.tm 1), (2, σ.tm 2), (3, σ.tm 3), (9, σ.tm 9), (0, .str z.cur), (3, .i (s.count 32 : Nat)), (10, .i z.k)]) (fun σ z => [(0, oz s z.k)]) 0 (fun σ z => rE s z) (fun σ z => s.count 32 - z.k) .auto)) .auto))))))))
noncomputable def P9 : Tb := ((T0.plus 26 Tf).plus 123 vr).body Tryz.prog [(79, .auto)]
theorem sI : zZ Tryz.prog P9 := zZ.body mixed (zZ.plus (zZ.plus zR QZ) tn) _
theorem Q4 (s : zp) (hl : s.length ≤ 100000) :
 let q1 := (if (lZ s) + iO < (↑(List.count (32 : UInt8) s) : Int) + iO then (lZ s) + iO else (↑(List.count (32 : UInt8) s) : Int) + iO); let q2 := (q1 - iO); let q3 := (kI ∧ iZ = iZ); let q4 := (kI ∧ q1 - iO = q1 - iO); let q5 := (nat_lit 0 = 0 ∧ 0 = 0 ∧ Int.toNat q1 = Int.toNat q1); let q6 := (kI ∧ q1 - iO = (↑(List.count (32 : UInt8) s) : Int)); let q9 := (↑(Int.toNat q1) : Int); Zo [AV.str s, AV.str [(32 : UInt8)], aI (0
 : Int), aI (-1 : Int)] → zz (DB.db (ZG .i64 ((↑(List.count (32 : UInt8) s) : Int) + iO))) (zz (DB.db (ZG .i64 ((lZ s) + iO))) (zz (DB.db ((iZ ≤ if (lZ s) + iO < (↑(List.count (32 : UInt8) s) : Int) + iO then (lZ s) + iO else (↑(List.count (32 : UInt8) s) : Int) + iO) ∧ (q1 ≤ if (lZ s) + iO < (↑(List.count (32 : UInt8) s) : Int) + iO then (lZ s) + iO else (↑(List.count (32 : UInt8) s) : Int) + iO)
 ∧ ((↑16 : Int) * if (lZ s) + iO < (↑(List.count (32 : UInt8) s) : Int) + iO then (lZ s) + iO else (↑(List.count (32 : UInt8) s) : Int) + iO) ≤ (140737488355328 : Int))) (zz (DB.db (ZG .i64 q2)) ((∃ (z : xU), (rE s z ∧ [(32 : UInt8)] = [(32 : UInt8)] ∧ q3 ∧ q4 ∧ q5 ∧ s = xU.cur z ∧ q6 ∧ kI ∧ iZ = (↑(xU.k z) : Int)) ∧ (9 : TypeId) = 9 ∧ 1 = 1 ∧ List.count (32 : UInt8) s + 1 = Int.toNat q1 ∧ ∀ (i j : Nat), i < Int.toNat q1 → j < 1 → zc (Ym (Value.string (ByteArray.mk #[])) j) (AV.str (if i < xU.k z
 then gD (zN (32 : UInt8) s) i [] else []))) ∧ ∀ (z : xU), let q8 := (DB.db (iZ ≤ (↑(xU.k z) : Int) ∧ (↑(xU.k z) : Int) < q9)); let q10 := (DB.db (ZG .i64 ((↑(xU.k z) : Int) + iO))); let q7 := (zz q8 (zz q10 (zz (DB.db (iZ ≤ (↑(xU.k z) : Int) + iO ∧ (↑(xU.k z) : Int) + iO ≤ q9)) (9 = 9 ∧ 1 = 1 ∧ Int.toNat ((↑(xU.k z) : Int) + iO) = List.count (32 : UInt8) s + 1 ∧ ∀ (i j : Nat), i < List.count (32 : UInt8) s + 1 → j < 1 → zc (if i = 0 + Int.toNat (↑(xU.k z) : Int) ∧ 0 ≤ j ∧ j < 1 then AV.str (xU.cur z) else AV.str (if i <
 xU.k z then gD (zN (32 : UInt8) s) i [] else [])) (AV.str (gD (zN (32 : UInt8) s) i []))) False) False) False); let q11 := (Lib.indexByte (xU.cur z) (32 : UInt8) + iZ); let q12 := (Lib.indexByte (xU.cur z) (32 : UInt8) + (↑1 : Int)); rE s z → zz (zl (↑(xU.k z) : Int) q2) (zz (zl (Lib.indexByte (xU.cur z) (32 : UInt8)) iZ) q7 (zz (DB.db (ZG .i64 q11)) (zz (DB.db (iZ ≤ Lib.indexByte (xU.cur z) (32 : UInt8) + iZ ∧ Lib.indexByte (xU.cur z) (32 : UInt8) + iZ ≤ (lZ (xU.cur z)))) (zz q8 (zz
 (DB.db (ZG .i64 q12)) (zz (DB.db (iZ ≤ Lib.indexByte (xU.cur z) (32 : UInt8) + (↑1 : Int) ∧ Lib.indexByte (xU.cur z) (32 : UInt8) + (↑1 : Int) ≤ (lZ (xU.cur z)))) (zz q10 (∃ (z' : xU), ((rE s z' ∧ List.count (32 : UInt8) s - xU.k z' < List.count (32 : UInt8) s - xU.k z) ∧ [(32 : UInt8)] = [(32 : UInt8)] ∧ q3 ∧ q4 ∧ q5 ∧ List.drop (Int.toNat q12) (xU.cur z) = xU.cur z' ∧ q6 ∧ kI ∧ (↑(xU.k z) : Int) + iO = (↑(xU.k z') : Int)) ∧ 9 = 9 ∧ 1 = 1 ∧ List.count (32 : UInt8) s + 1 = List.count (32 : UInt8) s + 1 ∧ ∀ (i j : Nat), i <
 List.count (32 : UInt8) s + 1 → j < 1 → zc (if i = 0 + Int.toNat (↑(xU.k z) : Int) ∧ 0 ≤ j ∧ j < 1 then AV.str (List.take (Int.toNat q11) (xU.cur z)) else AV.str (if i < xU.k z then gD (zN (32 : UInt8) s) i [] else [])) (AV.str (if i < xU.k z' then gD (zN (32 : UInt8) s) i [] else []))) False) False) False) False) False) False)) q7) False) False) False) False := by
 delta kI lZ gD iZ iO aI
 dsimp only
 intro hb
 simp only [↓XG, ↓xJ, row_one]
 simp only [sS, zJ, zm, zM, zQ, yn, ZQ, X4, yO, x8]
 have hc : s.count 32 ≤ s.length := List.count_le_length
 have en : (if (s.length : Int) + 1 < (s.count 32 : Int) + 1 then (s.length : Int) + 1 else (s.count 32 : Int) + 1) = (s.count 32 : Int) + 1 := if_neg (by omega)
 rw [en]
 have e1 : ((s.count 32 : Int) + 1).toNat = s.count 32 + 1 := by omega
 rw [e1]
 refine ⟨⟨by omega, by omega⟩, ⟨by omega, by omega⟩, ⟨by omega, Int.le_refl _, by omega⟩, ⟨by omega, by omega⟩, ⟨⟨0, s⟩, ⟨⟨Nat.zero_le _, rfl, Nat.le_refl _⟩, rfl, by omega, rfl⟩, rfl, fun i j _ hj => ?_⟩, fun z hz => ⟨fun hk => ?_, fun hk => ?_⟩⟩
 ·obtain rfl : j = 0 := by omega
  exact zY _
 ·obtain ⟨k, cur⟩ := z
  simp only at hk ⊢
  have hk' : k < s.count 32 := by omega
  refine ⟨fun h => ?_, fun h => ?_⟩
  ·rcases vp 32 cur with ⟨a, b, _, _, e⟩ | ⟨h1, _⟩
   ·omega
   ·exact absurd (hz.more hk') h1
  ·rcases vp 32 cur with ⟨a, b, rfl, ha, e⟩ | ⟨h1, h2⟩
   ·obtain ⟨s1, s2⟩ := hz.step ha hk'
    have hl2 := hz.l
    simp only [List.length_append, List.length_cons] at hl2 ⊢
    have e3 : ((a.length : Int) + 0).toNat = a.length := by omega
    have e4 : ((a.length : Int) + 1).toNat = a.length + 1 := by omega
    rw [e]
    refine ⟨⟨by omega, by omega⟩, ⟨by omega, by omega⟩, ⟨by omega, by omega⟩, ⟨by omega, by omega⟩, ⟨by omega, by omega⟩, ⟨by omega, by omega⟩, ⟨k + 1, b⟩, ⟨⟨s1, by simp only; omega⟩, ?_, by omega, by simp only; omega⟩, ?_⟩
    ·rw [e4, ← List.drop_drop, List.drop_left]
     rfl
    ·intro i j hi hj
     obtain rfl : j = 0 := by omega
     rw [e3, List.take_left]
     by_cases h3 : i = k
     ·subst h3
      rw [if_pos ⟨rfl, by omega⟩, if_pos (by simp only; omega), s2]
      exact zY _
     ·rw [if_neg fun h => h3 h.1]
      by_cases h4 : i < k
      ·rw [if_pos h4, if_pos (by simp only; omega)]
       exact zY _
      ·rw [if_neg h4, if_neg (by simp only; omega)]
       exact zY _
   ·omega
 ·obtain ⟨k, cur⟩ := z
  simp only at hk ⊢
  have hk' : k = s.count 32 := by have := hz.k; simp only at this; omega
  obtain ⟨_, s2⟩ := hz.last hk'
  have hkk := hz.k
  refine ⟨⟨by omega, by omega⟩, ⟨by omega, by omega⟩, ⟨by omega, by omega⟩, by omega, ?_⟩
  intro i j hi hj
  obtain rfl : j = 0 := by omega
  by_cases h3 : i = k
  ·subst h3
   rw [if_pos ⟨rfl, by omega⟩, s2]
   exact zY _
  ·rw [if_neg fun h => h3 h.1, if_pos (by omega)]
   exact zY _
theorem pf {s : zp} (hl : s.length ≤ 100000) : ZP Tryz.prog [] 176 [.str s, .str [32], .i 0, .i (-1)] 9 1 (s.count 32 + 1) (fun i _ => .str ((zN 32 s).getD i [])) :=
 wg mixed sI (Eq.mp (by kernel_rfl) (Q4 s hl) : Wx Tryz.prog P9 176 (Qq s) [.str s, .str [32], .i 0, .i (-1)] 9 1 (s.count 32 + 1) (fun i _ => .str ((zN 32 s).getD i [])))
def rZ (l : List zp) : List AV → Option (List zS × TypeId × Nat × Nat × (Nat → Nat → AV))
 | [.str s, .str p, .v (.int .i64 a), .v (.int .i64 b)] => some ([.b (p == [32] && a == 0 && b == -1), .p (s.length ≤ 100000), .p (zN 32 s = l)], 9, 1, l.length, fun i _ => .str (l.getD i []))
 | _ => none
theorem Pt (l : List zp) : Yw Tryz.prog [] 176 (rZ l) := by
 intro xs ps ty sz len els h hp
 unfold rZ at h
 split at h
 ·rename_i s p a b
  cases h
  have q0 : (p == [32] && a == 0 && b == -1) = true := hp (.b _) (by simp)
  have q1 : s.length ≤ 100000 := hp (.p (s.length ≤ 100000)) (by simp)
  have q2 : zN 32 s = l := hp (.p (zN 32 s = l)) (by simp)
  simp only [Bool.and_eq_true, beq_iff_eq] at q0
  obtain ⟨⟨rfl, rfl⟩, rfl⟩ := q0
  subst q2
  have := pf q1
  rw [← yN] at this
  exact this
 ·cases h
noncomputable def P2 (l : List zp) : Tb := T0.plusF 176 (rZ l)
theorem si (l : List zp) : zZ Tryz.prog (P2 l) := zZ.plusF zR (Pt l)
theorem QO (s : zp) (l : List zp) (hl : s.length ≤ 100000) (hs : zN 32 s = l) :
 Zo [AV.str s, AV.str [(32 : UInt8)]] → lN s ≤ 100000 ∧ zN (32 : UInt8) s = l ∧ 9 = 9 ∧ 1 = 1 ∧ lN l = lN l ∧ ∀ (i j : Nat), i < lN l → j < 1 → gD l i [] = gD l i [] := by
 delta lN gD
 intro hb
 simp only [↓XG, ↓xJ, row_one]
 simp only [sS, zJ, zm, zM, zQ, yn, ZQ, X4, yO, x8]
 exact ⟨hl, hs, fun _ _ _ _ => trivial⟩
def RZ (l : List zp) : List AV → Option (List zS × TypeId × Nat × Nat × (Nat → Nat → AV))
 | [.str s, .str p] => some ([.b (p == [32]), .p (s.length ≤ 100000), .p (zN 32 s = l)], 9, 1, l.length, fun i _ => .str (l.getD i []))
 | _ => none
theorem pM (l : List zp) : Yw Tryz.prog [] 118 (RZ l) := by
 intro xs ps ty sz len els h hp
 unfold RZ at h
 split at h
 ·rename_i s p
  cases h
  have q0 : (p == [32]) = true := hp (.b _) (by simp)
  have q1 : s.length ≤ 100000 := hp (.p (s.length ≤ 100000)) (by simp)
  have q2 : zN 32 s = l := hp (.p (zN 32 s = l)) (by simp)
  rw [beq_iff_eq] at q0
  subst q0
  exact wg mixed (si l) (Eq.mp (by kernel_rfl) (QO s l q1 q2) : Wx Tryz.prog (P2 l) 118 .auto [.str s, .str [32]] 9 1 l.length (fun i _ => .str (l.getD i [])))
 ·cases h
def Rn : List AV → Option (List zS × AV)
 | [.str s, .str p] => some ([.p (s.length ≤ 9223372036854775807)], .b (Lib.hasSuffix s p))
 | _ => none
theorem pj : zn Tryz.prog [] 175 Rn := by
 intro xs ps r h hp
 unfold Rn at h
 split at h
 ·rename_i s p
  cases h
  have q1 : s.length ≤ 9223372036854775807 := hp _ List.mem_cons_self
  refine ⟨enters_of Tryz.func175 (by kernel_rfl) rfl, fun w S vals hS hg hr => ?_⟩
  match vals, hr with
  | [v, v2], ⟨hv, hv2, _⟩ =>
  obtain rfl := ZZ hv
  obtain rfl := ZZ hv2
  refine (Tryz.stringslite_HasSuffix ⟨s.toArray⟩ ⟨p.toArray⟩ w q1).mono ?_
  rintro e w' ⟨rfl, rfl⟩
  exact ⟨⟨Below.refl _ _, Nat.le_refl _⟩, _, rfl, .v _⟩
 ·cases h
def y8 (s : zp) : Bool := Lib.hasSuffix s [10]
def wQ (s : zp) : zp := bif y8 s then s.take (s.length - 1) else s
theorem vY {s : zp} : y8 s = true ↔ ∃ t, s = t ++ [10] := by
 unfold y8 Lib.hasSuffix
 rw [List.isSuffixOf_iff_suffix]
 exact ⟨fun ⟨t, h⟩ => ⟨t, h.symm⟩, fun ⟨t, h⟩ => ⟨t, h.symm⟩⟩
theorem TT (t : zp) : y8 (t ++ [10]) = true ∧ wQ (t ++ [10]) = t := by
 have h := vY.2 ⟨t, rfl⟩
 refine ⟨h, ?_⟩
 unfold wQ
 rw [h]
 simp
theorem py {t : zp} (h : (10 : UInt8) ∉ t) : y8 t = false ∧ wQ t = t := by
 have h1 : y8 t = false := by
  cases hb : y8 t with
  | false => rfl
  | true =>
   obtain ⟨u, rfl⟩ := vY.1 hb
   exact absurd (List.mem_append_right _ List.mem_cons_self) h
 exact ⟨h1, by unfold wQ; rw [h1]; rfl⟩
noncomputable def P1 : Tb := (T0.plus 175 Rn).body Tryz.prog [(117, .auto)]
theorem sy : zZ Tryz.prog P1 := zZ.body mixed (zZ.plus zR pj) _
theorem pr (s : zp) (hl : s.length ≤ 100000) :
 Zo [AV.str s, AV.str [(10 : UInt8)]] → lN s ≤ 9223372036854775807 ∧ zz (!Lib.hasSuffix s [(10 : UInt8)]) (j2 ∧ (True ∧ s = wQ s) ∧ false = y8 s) (zz (DB.db (ZG .i64 ((lZ s) - (↑1 : Int)))) (zz (DB.db (iZ ≤ (lZ s) - (↑1 : Int) ∧ (lZ s) - (↑1 : Int) ≤ (lZ s))) (j2 ∧ (True ∧ List.take (Int.toNat ((lZ s) - (↑1 : Int))) s = wQ s) ∧ true = y8 s) False) False) := by
 delta j2 lZ lN iZ
 intro hb
 have hd : Lib.hasSuffix s [10] = y8 s := rfl
 simp only [↓XG, ↓xJ, row_one]
 simp only [sS, zJ, zm, zM, zQ, yn, ZQ, X4, yO, x8, hd]
 refine ⟨by omega, zT.2 ⟨fun h => ?_, fun h => ?_⟩⟩
 ·have h : y8 s = false := by simpa using h
  exact ⟨rfl, by unfold wQ; rw [h]; rfl, h.symm⟩
 ·have h : y8 s = true := by simpa using h
  obtain ⟨t, rfl⟩ := vY.1 h
  obtain ⟨_, h2⟩ := TT t
  rw [h2]
  simp only [List.length_append, List.length_singleton] at hl ⊢
  have e : (((t.length + 1 : Nat) : Int) - 1).toNat = t.length := by omega
  refine ⟨⟨by omega, by omega⟩, ⟨by omega, by omega⟩, rfl, ?_, h.symm⟩
  rw [e, List.take_left]
def Sp : List AV → Option (List zS × AV)
 | [.str s, .str p] => some ([.b (p == [10]), .p (s.length ≤ 100000)], .tup 2 (zU [.str (wQ s), .b (y8 s)]))
 | _ => none
theorem Pz : zn Tryz.prog [] 67 Sp := by
 intro xs ps r h hp
 unfold Sp at h
 split at h
 ·rename_i s p
  cases h
  have q0 : (p == [10]) = true := hp (.b _) (by simp)
  have q1 : s.length ≤ 100000 := hp (.p (s.length ≤ 100000)) (by simp)
  rw [beq_iff_eq] at q0
  subst q0
  exact zt mixed sy (Eq.mp (by kernel_rfl) (pr s q1) : uj Tryz.prog P1 67 .auto [.str s, .str [10]] (.tup 2 (zU [.str (wQ s), .b (y8 s)])))
 ·cases h
end Go.Te

namespace Go.Te
open Go Go.Sx Go.Proofs Go.Ar Go.RowKit
set_option maxRecDepth 100000
set_option maxHeartbeats 4000000
def yp (l : List Row) : Int := bif zj l != 0 then 1 else bif zl 65536 (wB l).length then 4 else 0
def y9 (l : List Row) : zp := bif yp l == 0 then wB l else []
def Tb.ownB (T : Tb) (f : FuncId) (t : Nat → (Nat → OB) → List AV → (Nat → (Nat → OB) → AV → Prop) → Prop) : Tb := { T with own := fun g => bif Nat.beq g f then some t else T.own g }
theorem zZ.ownB {P : Program} {T : Tb} (hT : zZ P T) {f : FuncId} {t : Nat → (Nat → OB) → List AV → (Nat → (Nat → OB) → AV → Prop) → Prop} (ht : tM P T.objs f t) : zZ P (Tb.ownB T f t) := by
 refine ⟨fun g t' h => ?_, hT.pu, hT.fre⟩
 simp only [Tb.ownB] at h
 cases hx : Nat.beq g f with
 | false => rw [hx] at h; exact hT.own _ _ h
 | true =>
  rw [hx] at h
  obtain rfl := Nat.eq_of_beq_eq_true hx
  cases h
  exact ht
noncomputable def Pd (G : List (Nat × Obj)) : Tb := (Tb.ownB (Tb.ownB ((pd G).plus 24 YM) 120 PQ) 73 Rh).body Tryz.prog [(69, .auto), (70, .auto), (72, .auto)]
theorem sE {G : List (Nat × Obj)} (hG : yZ G) : zZ Tryz.prog (Pd G) := zZ.body mixed (zZ.ownB (zZ.ownB (zZ.plus (x7 hG) (zn.mono xB)) (Qj G)) (qP G)) _
def oX (s : zp) : OB := .arr 5 1 s.length fun i _ => .v (.int .u8 ((s.getD i 0).toNat : Int))
def yL (l : List Row) (z : Nat) : zp := wB (l.take z)
theorem UN {n : Int} (h : Sw n = true) : (Lib.itoa n).length ≤ 9 := by
 rw [yH] at h
 rw [SH]
 have : Pp n ≤ 9 := Qm (by omega) (by omega)
 split <;> omega
theorem xM {x : Row} (h : y2 x = true) : (Lib.itoa x.w).length ≤ 9 ∧ (Lib.itoa x.d).length ≤ 9 ∧ (Lib.itoa x.s).length ≤ 9 ∧ (Lib.itoa x.q).length ≤ 9 ∧ (Lib.itoa x.n).length ≤ 9 := by
 unfold y2 at h
 simp only [Bool.and_eq_true] at h
 exact ⟨UN h.1.1.1.1, UN h.1.1.1.2, UN h.1.1.2, UN h.1.2, UN h.2⟩
theorem WX {x : Row} (h : y2 x = true) : (0 ≤ x.w ∧ x.w < 1000000000) ∧ (0 ≤ x.d ∧ x.d < 1000000000) ∧ (0 ≤ x.s ∧ x.s < 1000000000) ∧ (0 ≤ x.q ∧ x.q < 1000000000) ∧ (0 ≤ x.n ∧ x.n < 1000000000) := by
 unfold y2 at h
 simp only [Bool.and_eq_true, yH] at h
 exact ⟨h.1.1.1.1, h.1.1.1.2, h.1.1.2, h.1.2, h.2⟩
theorem Yd (b : zp) (x : Row) : b ++ xT x = b ++ Lib.itoa x.w ++ [32] ++ Lib.itoa x.d ++ [32] ++ Lib.itoa x.s ++ [32] ++ Lib.itoa x.q ++ [32] ++ Lib.itoa x.n ++ [10] := by
 unfold xT
 simp only [List.append_assoc, List.cons_append, List.nil_append]
theorem X0 {l : List Row} {z : Nat} (h : z < l.length) : yL l (z + 1) = yL l z ++ xT (l.getD z r0) := by
 unfold yL
 rw [VR (d := r0) h, So]
theorem Wy {l : List Row} (h : ∀ i, i < l.length → y2 (l.getD i r0) = true) : ∀ z, z ≤ l.length → (yL l z).length ≤ 50 * z ∧ 10 * z ≤ (yL l z).length
 | 0, _ => ⟨Nat.le_refl _, Nat.le_refl _⟩
 | z + 1, hz => by
  have ih := Wy h z (by omega)
  have hr := xM (h z (by omega))
  have h1 := (WX (h z (by omega)))
  rw [X0 (by omega), Yd]
  have pos : ∀ n : Int, 0 ≤ n → 1 ≤ (Lib.itoa n).length := fun n hn => by
   obtain ⟨m, rfl⟩ : ∃ m : Nat, n = m := ⟨n.toNat, by omega⟩
   rw [Go.Ar.yP]
   exact Go.Ar.Yi m
  have p1 := pos _ h1.1.1
  have p2 := pos _ h1.2.1.1
  have p3 := pos _ h1.2.2.1.1
  have p4 := pos _ h1.2.2.2.1.1
  have p5 := pos _ h1.2.2.2.2.1
  simp only [List.length_append, List.length_singleton]
  omega
def bt (s : zp) (i : Nat) : AV := .v (.int .u8 ((s.getD i 0).toNat : Int))
theorem VW (a b : zp) (i : Nat) : (a ++ b).getD i 0 = if i < a.length then a.getD i 0 else b.getD (i - a.length) 0 := by
 by_cases h : i < a.length
 ·rw [if_pos h, List.getD_eq_getElem?_getD, List.getElem?_append_left h, ← List.getD_eq_getElem?_getD]
 ·rw [if_neg h, List.getD_eq_getElem?_getD, List.getElem?_append_right (by omega), ← List.getD_eq_getElem?_getD]
theorem UY {X : AV} {a b : zp} {n i : Nat} (hn : n = a.length) (h : i < n → zc X (bt a i)) : zc (if i < n then X else bt b (i - n)) (bt (a ++ b) i) := by
 unfold bt at *
 rw [VW, ← hn]
 split
 ·rename_i h1; exact h h1
 ·exact zY _
theorem Vl {X : AV} {a : zp} {c : UInt8} {n i : Nat} (hn : n = a.length) (hi : i < n + 1) (h : i < n → zc X (bt a i)) : zc (if i < n then X else AV.v (.int .u8 (c.toNat : Int))) (bt (a ++ [c]) i) := by
 unfold bt at *
 rw [VW, ← hn]
 split
 ·rename_i h1; exact h h1
 ·rw [show i - n = 0 by omega]
  exact zY _
theorem tE {l : List Row} (h : zj l = 0) (i : Nat) (hi : i < l.length) : y2 (l.getD i r0) = true := by
 rw [List.getD_eq_getElem?_getD, List.getElem?_eq_getElem hi]
 exact TK h _ (List.getElem_mem hi)
theorem WW (l : List Row) : yL l l.length = wB l := by unfold yL; rw [List.take_length]
def pG (l : List Row) : Z8 :=
 .two .auto (.two .auto (.two .auto (.two (.two .auto (.one (.two (.two .auto (.two .auto (.two (.one (.two .auto (.two (.two .auto (.one (.unroll 6 .auto))) .auto))) .auto))) (.unroll (l.length + 1) (.loop Nat (fun σ z => [(4, σ.tm 4), (12, σ.tm 12), (13, σ.tm 13), (14, .i z)]) (fun σ z => [(0, .box 108 2 (zU [.np 0 0, .ns σ.nb 0 (yL l z).length])), (σ.nb, oX (yL l z))] ++ ((List.range σ.nb).map fun i => (i, OB.dead)) ++ []) 1 (fun σ z => 1 ≤ z ∧ z ≤ l.length) (fun σ z => l.length - z) (.two .auto (.two .auto (.two (.one (.two .auto (.two (.two .auto (.one (.unroll 6 .auto))) .auto))) .auto)))))))) .auto)))
theorem pJ (G : List (Nat × Obj)) (l : List Row) :
 let q1 := (AV.xl false 5 (lN l) fun i j => zv.enc (gD l i zv.dflt) j); let q2 := (True ∧ Array.toList (ByteArray.data (ByteArray.mk #[])) = y9 l); let q3 := (Lib.itoa (Row.w (gD l 0 zv.dflt))); let q4 := (lN q3 + 1); let q6 := (Lib.itoa (Row.d (gD l 0 zv.dflt))); let q5 := (lN q3 + 1 + lN q6); let q7 := (lN q3 + 1 + lN q6 + 1); let q9 := (Lib.itoa (Row.s (gD l 0 zv.dflt))); let q8 := (lN q3 + 1 + lN q6 + 1 + lN q9); let q10 := (lN q3 + 1 + lN q6 + 1 + List.length
 q9 + 1); let q12 := (Lib.itoa (Row.q (gD l 0 zv.dflt))); let q11 := (lN q3 + 1 + lN q6 + 1 + lN q9 + 1 + lN q12); let q13 := (lN q3 + 1 + lN q6 + 1 + lN q9 + 1 + lN q12 + 1); let q15 := (Lib.itoa (Row.n (gD l 0 zv.dflt))); let q14 := (lN q3 + 1 + lN q6 + 1 + lN q9 + 1 + lN q12 + 1 + lN q15); let q16 := (kI ∧ (lZ l) = (lZ l)); Zo [AV.xl false 5 (lN l) fun i j => zv.enc (gD l i zv.dflt) j] →
 zz (ZV Row q1) (zz (zj (rowsOf q1) != iZ) (j2 ∧ q2 ∧ kI ∧ iO = yp l) (zz (zl iZ (lZ l)) (zz (DB.db (iZ ≤ iZ ∧ iZ < (lZ l))) ((iN ≤ Row.w (gD l 0 zv.dflt) ∧ Row.w (gD l 0 zv.dflt) ≤ iX) ∧ zz (DB.db (lN q3 * 1 ≤ 140737488355328)) (zz (DB.db (q4 * 1 ≤ 140737488355328)) ((iN ≤ Row.d (gD l 0 zv.dflt) ∧ Row.d (gD l 0 zv.dflt) ≤
 iX) ∧ zz (DB.db (q5 * 1 ≤ 140737488355328)) (zz (DB.db (q7 * 1 ≤ 140737488355328)) ((iN ≤ Row.s (gD l 0 zv.dflt) ∧ Row.s (gD l 0 zv.dflt) ≤ iX) ∧ zz (DB.db (q8 * 1 ≤ 140737488355328)) (zz (DB.db (q10 * 1 ≤ 140737488355328)) ((iN ≤ Row.q (gD l 0 zv.dflt) ∧ Row.q (gD l 0 zv.dflt) ≤ iX) ∧ zz (DB.db (q11 * 1 ≤ 140737488355328)) (zz (DB.db (q13 * 1 ≤ 140737488355328)) ((iN ≤ Row.n (gD l
 0 zv.dflt) ∧ Row.n (gD l 0 zv.dflt) ≤ iX) ∧ zz (DB.db (q14 * 1 ≤ 140737488355328)) (zz (DB.db ((lN q3 + 1 + lN q6 + 1 + lN q9 + 1 + lN q12 + 1 + lN q15 + 1) * 1 ≤ 140737488355328)) ((∃ (z : Nat), (((1 ≤ z ∧ z ≤ lN l) ∧ lN l - z < lN l + 1) ∧ (nat_lit 0 = 0 ∧ 0 = 0) ∧ zc q1 q1 ∧ q16 ∧ kI ∧ iZ + iO = (↑z : Int)) ∧ ((((((((((((108 = 108 ∧ 2 = 2 ∧ (0 = 0 ∧ 0 = 0) ∧ nat_lit 12 = 12 ∧ 0 = 0 ∧ lN (yL l z) = lN q3 + 1 + lN q6 + 1 +
 lN q9 + 1 + lN q12 + 1 + lN q15 + 1) ∧ True) ∧ True) ∧ True) ∧ True) ∧ True) ∧ True) ∧ True) ∧ True) ∧ True) ∧ True) ∧ True) ∧ (5 : TypeId) = 5 ∧ 1 = 1 ∧ lN (yL l z) = lN q3 + 1 + lN q6 + 1 + lN q9 + 1 + lN q12 + 1 + lN q15 + 1 ∧ ∀ (i j : Nat), i < lN q3 + 1 + lN q6 + 1 + lN q9 + 1 + lN q12 + 1 + lN q15 + 1 → j < 1 → zc (if i < lN q3 + 1 + lN q6 + 1 + lN q9 + 1 + lN q12 + 1 + lN q15 then if i < lN q3 + 1 +
 lN q6 + 1 + lN q9 + 1 + lN q12 + 1 then if i < lN q3 + 1 + lN q6 + 1 + lN q9 + 1 + lN q12 then if i < lN q3 + 1 + lN q6 + 1 + lN q9 + 1 then if i < lN q3 + 1 + lN q6 + 1 + lN q9 then if i < lN q3 + 1 + lN q6 + 1 then if i < lN q3 + 1 + lN q6 then if i < lN q3 + 1 then if i < lN q3 then AV.v (Value.int IntKind.u8 (↑(UInt8.toNat (gD q3 i (0 : UInt8))) : Int)) else Sx.rowAt [fun (x : Nat) => AV.v (Value.int IntKind.u8 (32
 : Int))] (i - lN q3) j else AV.v (Value.int IntKind.u8 (↑(UInt8.toNat (gD q6 (i - q4) (0 : UInt8))) : Int)) else Sx.rowAt [fun (x : Nat) => AV.v (Value.int IntKind.u8 (32 : Int))] (i - q5) j else AV.v (Value.int IntKind.u8 (↑(UInt8.toNat (gD q9 (i - q7) (0 : UInt8))) : Int)) else Sx.rowAt [fun (x : Nat) => AV.v (Value.int IntKind.u8 (32 : Int))] (i - q8) j else AV.v (Value.int IntKind.u8 (↑(UInt8.toNat (gD q12 (i - q10) (0 : UInt8))) : Int)) else Sx.rowAt [fun (x : Nat) => AV.v (Value.int IntKind.u8 (32 : Int))] (i - q11) j else AV.v (Value.int IntKind.u8
 (↑(UInt8.toNat (gD q15 (i - q13) (0 : UInt8))) : Int)) else Sx.rowAt [fun (x : Nat) => AV.v (Value.int IntKind.u8 (10 : Int))] (i - q14) j) (AV.v (Value.int IntKind.u8 (↑(UInt8.toNat (gD (yL l z) i (0 : UInt8))) : Int)))) ∧ ∀ (z : Nat), let q17 := (gD l (Int.toNat (↑z : Int)) zv.dflt); let q19 := (Lib.itoa (Row.w q17)); let q18 := (lN (yL l z) + lN q19); let q20 := (lN (yL l z) + lN q19 + 1); let q22 := (Lib.itoa (Row.d q17)); let q21 := (lN (yL l z) + lN q19 + 1 + lN q22); let q23 := (lN (yL l z)
 + lN q19 + 1 + lN q22 + 1); let q25 := (Lib.itoa (Row.s q17)); let q24 := (lN (yL l z) + lN q19 + 1 + lN q22 + 1 + lN q25); let q26 := (lN (yL l z) + lN q19 + 1 + lN q22 + 1 + lN q25 + 1); let q28 := (Lib.itoa (Row.q q17)); let q27 := (lN (yL l z) + lN q19 + 1 + lN q22 + 1 + lN q25 + 1 + lN q28); let q29 := (lN (yL l z) + lN q19 + 1 + lN q22 + 1 + lN q25 + 1 + lN q28 + 1); let q31 := (Lib.itoa (Row.n q17)); let
 q30 := (lN (yL l z) + lN q19 + 1 + lN q22 + 1 + lN q25 + 1 + lN q28 + 1 + lN q31); 1 ≤ z ∧ z ≤ lN l → zz (zl (↑z : Int) (lZ l)) (zz (DB.db (iZ ≤ (↑z : Int) ∧ (↑z : Int) < (lZ l))) ((iN ≤ Row.w q17 ∧ Row.w q17 ≤ iX) ∧ zz (DB.db (q18 * 1 ≤ 140737488355328)) (zz (DB.db (q20 * 1 ≤ 140737488355328)) ((iN ≤ Row.d q17 ∧ Row.d q17 ≤ iX) ∧ zz (DB.db (q21 * 1 ≤ 140737488355328))
 (zz (DB.db (q23 * 1 ≤ 140737488355328)) ((iN ≤ Row.s q17 ∧ Row.s q17 ≤ iX) ∧ zz (DB.db (q24 * 1 ≤ 140737488355328)) (zz (DB.db (q26 * 1 ≤ 140737488355328)) ((iN ≤ Row.q q17 ∧ Row.q q17 ≤ iX) ∧ zz (DB.db (q27 * 1 ≤ 140737488355328)) (zz (DB.db (q29 * 1 ≤ 140737488355328)) ((iN ≤ Row.n q17 ∧ Row.n q17 ≤ iX) ∧ zz (DB.db (q30 * 1 ≤ 140737488355328)) (zz (DB.db ((lN (yL l z) + lN q19 + 1 + List.length
 q22 + 1 + lN q25 + 1 + lN q28 + 1 + lN q31 + 1) * 1 ≤ 140737488355328)) (zz (DB.db (ZG .i64 ((↑z : Int) + iO))) (∃ (z' : Nat), (((1 ≤ z' ∧ z' ≤ lN l) ∧ lN l - z' < lN l - z) ∧ (nat_lit 0 = 0 ∧ 0 = 0) ∧ zc q1 q1 ∧ q16 ∧ kI ∧ (↑z : Int) + iO = (↑z' : Int)) ∧ ((((((((((((108 = 108 ∧ 2 = 2 ∧ (0 = 0 ∧ 0 = 0) ∧ nat_lit 12 = 12 ∧ 0 = 0 ∧ lN (yL l z') = lN (yL l z) + lN q19 + 1 + lN q22 + 1 + lN q25 + 1 + lN q28 + 1 + lN q31 + 1) ∧ True) ∧ True) ∧
 True) ∧ True) ∧ True) ∧ True) ∧ True) ∧ True) ∧ True) ∧ True) ∧ True) ∧ (5 : TypeId) = 5 ∧ 1 = 1 ∧ lN (yL l z') = lN (yL l z) + lN q19 + 1 + lN q22 + 1 + lN q25 + 1 + lN q28 + 1 + lN q31 + 1 ∧ ∀ (i j : Nat), i < lN (yL l z) + lN q19 + 1 + lN q22 + 1 + lN q25 + 1 + lN q28 + 1 + lN q31 + 1 → j < 1 → zc (if i < lN (yL l z) + lN q19 + 1 + lN q22 + 1 + lN q25 + 1 + lN q28 + 1 + lN q31 then if i < lN (yL l z) +
 lN q19 + 1 + lN q22 + 1 + lN q25 + 1 + lN q28 + 1 then if i < lN (yL l z) + lN q19 + 1 + lN q22 + 1 + lN q25 + 1 + lN q28 then if i < lN (yL l z) + lN q19 + 1 + lN q22 + 1 + lN q25 + 1 then if i < lN (yL l z) + lN q19 + 1 + lN q22 + 1 + lN q25 then if i < lN (yL l z) + lN q19 + 1 + lN q22 + 1 then if i < lN (yL l z) + lN q19 + 1 + lN q22 then if i < lN (yL l z) + List.length
 q19 + 1 then if i < lN (yL l z) + lN q19 then if i < lN (yL l z) then AV.v (Value.int IntKind.u8 (↑(UInt8.toNat (gD (yL l z) i (0 : UInt8))) : Int)) else AV.v (Value.int IntKind.u8 (↑(UInt8.toNat (gD q19 (i - lN (yL l z)) (0 : UInt8))) : Int)) else Sx.rowAt [fun (x : Nat) => AV.v (Value.int IntKind.u8 (32 : Int))] (i - q18) j else AV.v (Value.int IntKind.u8 (↑(UInt8.toNat (gD q22 (i - q20) (0 : UInt8))) : Int)) else Sx.rowAt [fun (x : Nat) => AV.v (Value.int IntKind.u8 (32 : Int))] (i - q21) j else AV.v (Value.int IntKind.u8
 (↑(UInt8.toNat (gD q25 (i - q23) (0 : UInt8))) : Int)) else Sx.rowAt [fun (x : Nat) => AV.v (Value.int IntKind.u8 (32 : Int))] (i - q24) j else AV.v (Value.int IntKind.u8 (↑(UInt8.toNat (gD q28 (i - q26) (0 : UInt8))) : Int)) else Sx.rowAt [fun (x : Nat) => AV.v (Value.int IntKind.u8 (32 : Int))] (i - q27) j else AV.v (Value.int IntKind.u8 (↑(UInt8.toNat (gD q31 (i - q29) (0 : UInt8))) : Int)) else Sx.rowAt [fun (x : Nat) => AV.v (Value.int IntKind.u8 (10 : Int))] (i - q30) j) (AV.v (Value.int IntKind.u8 (↑(UInt8.toNat (gD (yL l z') i (0 : UInt8))) : Int)))) False)
 False) False) False) False) False) False) False) False) False) False) False) (zz (zl (65536 : Int) (lZ (yL l z))) (j2 ∧ q2 ∧ kI ∧ (4 : Int) = yp l) (0 < lN (yL l z) ∧ ∃ (l_1 : List UInt8), lN l_1 = lN (yL l z) ∧ (∀ (i : Nat), i < lN (yL l z) → AV.v (Value.int IntKind.u8 (↑(UInt8.toNat (gD (yL l z) i (0 : UInt8))) : Int)) = AV.v (Value.int IntKind.u8 (↑(UInt8.toNat (gD l_1 i (0 : UInt8))) : Int))) ∧ j2 ∧ (True ∧ l_1 = y9 l) ∧ IntKind.i64
 = .i64 ∧ iZ = yp l))) False) False) False) False) False) False) False) False) False) False) False) (j2 ∧ (True ∧ [] = y9 l) ∧ kI ∧ iZ = yp l))) False := by
 delta kI j2 lZ lN gD iZ iO iX iN
 dsimp only
 intro hb
 have e2 : (zv.dflt : Row) = r0 := rfl
 simp only [↓XG, ↓xJ, row_one]
 simp only [sS, zJ, zm, zM, zQ, yn, ZQ, X4, yO, w8, yA, wC, yb, yB, Zj, e2]
 refine ⟨fun h => ?_, fun h => ?_⟩
 ·have e : yp l = 1 := by unfold yp; rw [bne_iff_ne.2 h]; rfl
  exact ⟨rfl, by unfold y9; rw [e]; rfl, e.symm⟩
 have hall := tE h
 have h6 := (uN h).1
 have hL := Wy hall
 refine ⟨fun h0 => ?_, fun h0 => ?_⟩
 rotate_left
 ·have hn : l = [] := List.eq_nil_of_length_eq_zero (by omega)
  subst hn
  exact ⟨rfl, rfl, rfl⟩
 ·have r := xM (hall 0 (by omega))
  have n := WX (hall 0 (by omega))
  have hs : yL l 1 = Lib.itoa (l.getD 0 r0).w ++ [32] ++ Lib.itoa (l.getD 0 r0).d ++ [32] ++ Lib.itoa (l.getD 0 r0).s ++ [32] ++ Lib.itoa (l.getD 0 r0).q ++ [32] ++ Lib.itoa (l.getD 0 r0).n ++ [10] := by
   have e1 := X0 (l := l) (z := 0) (by omega)
   rw [Yd] at e1
   exact e1
  refine ⟨⟨by omega, by omega⟩, ⟨by omega, by omega⟩, by omega, by omega, ⟨by omega, by omega⟩, by omega, by omega, ⟨by omega, by omega⟩, by omega, by omega, ⟨by omega, by omega⟩, by omega, by omega, ⟨by omega, by omega⟩, by omega, by omega,
   ⟨1, ⟨⟨⟨by omega, by omega⟩, by omega⟩, rfl⟩, ?_, ?_, fun i j hi hj => ?_⟩, fun z hz => ⟨fun hzl => ?_, fun hzl => ?_⟩⟩
  ·rw [hs]; simp only [List.length_append, List.length_singleton]
  ·rw [hs]; simp only [List.length_append, List.length_singleton]
  ·show zc _ (bt (yL l 1) i)
   rw [hs]
   refine Vl (c := 10) (by simp only [List.length_append, List.length_singleton]) hi fun h => UY (by simp only [List.length_append, List.length_singleton]) fun h => ?_
   iterate 3 refine Vl (c := 32) (by simp only [List.length_append, List.length_singleton]) h fun h => UY (by simp only [List.length_append, List.length_singleton]) fun h => ?_
   exact Vl (c := 32) rfl h fun h => zY _
  ·have r := xM (hall z (by omega))
   have n := WX (hall z (by omega))
   have lz := hL z (by omega)
   have hs := X0 (l := l) (z := z) (by omega)
   rw [Yd] at hs
   refine ⟨⟨by omega, by omega⟩, ⟨by omega, by omega⟩, by omega, by omega, ⟨by omega, by omega⟩, by omega, by omega, ⟨by omega, by omega⟩, by omega, by omega, ⟨by omega, by omega⟩, by omega, by omega, ⟨by omega, by omega⟩, by omega, by omega, ⟨by omega, by omega⟩,
    ⟨z + 1, ⟨⟨⟨by omega, by omega⟩, by omega⟩, by omega⟩, ?_, ?_, fun i j hi hj => ?_⟩⟩
   ·rw [hs]; simp only [List.length_append, List.length_singleton]
   ·rw [hs]; simp only [List.length_append, List.length_singleton]
   ·show zc _ (bt (yL l (z + 1)) i)
    rw [hs]
    refine Vl (c := 10) (by simp only [List.length_append, List.length_singleton]) hi fun h => UY (by simp only [List.length_append, List.length_singleton]) fun h => ?_
    iterate 3 refine Vl (c := 32) (by simp only [List.length_append, List.length_singleton]) h fun h => UY (by simp only [List.length_append, List.length_singleton]) fun h => ?_
    exact Vl (c := 32) (by simp only [List.length_append, List.length_singleton]) h fun h => UY rfl fun h => zY _
  ·have ez : z = l.length := by omega
   rw [ez, WW]
   refine ⟨fun hb6 => ?_, fun hb6 => ⟨?_, wB l, rfl, fun i _ => rfl, rfl, ?_, ?_⟩⟩
   ·have e : yp l = 4 := by unfold yp; rw [h, (zK _ _).2 hb6]; rfl
    exact ⟨rfl, by unfold y9; rw [e]; rfl, e.symm⟩
   ·have := hL l.length (Nat.le_refl _)
    rw [WW] at this
    omega
   all_goals
    have e : yp l = 0 := by unfold yp; rw [h, show zl 65536 (wB l).length = false from Bool.eq_false_iff.2 fun e => by have := (zK _ _).1 e; omega]; rfl
    first | exact e.symm | (unfold y9; rw [e]; rfl)
theorem PK {G : List (Nat × Obj)} (hG : yZ G) (l : List Row) : zW Tryz.prog G 23 [yI l] (.tup 2 (zU [.str (y9 l), .i (yp l)])) :=
 zt (T := Pd G) (an := pG l) mixed (sE hG) (Eq.mp (by kernel_rfl) (pJ G l))
def Rc : List AV → Option (List zS × AV)
 | [x] => some ([.b (ZV Row x)], .tup 2 (zU [.str (y9 (rowsOf x)), .i (yp (rowsOf x))]))
 | _ => none
theorem p6 {G : List (Nat × Obj)} (hG : yZ G) : zn Tryz.prog G 23 Rc := by
 intro xs ps r h hp
 unfold Rc at h
 split at h
 ·rename_i x
  cases h
  obtain ⟨q0, -⟩ := Yc hp
  exact weaken (ys := [_]) ⟨zH q0, trivial⟩ (PK hG _)
 ·cases h
end Go.Te
