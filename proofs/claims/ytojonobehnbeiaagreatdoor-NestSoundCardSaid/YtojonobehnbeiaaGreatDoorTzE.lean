/- strings.Builder: copyCheck and String, walked. -/
import Derived.Test.YtojonobehnbeiaaGreatDoorTzS
import Derived.Test.YtojonobehnbeiaaGreatDoorTzD
namespace Go.Tz
open Go Go.Sx Go.Proofs Go.RowKit Go.Shelf
theorem sizeB : (Tryz.prog.info? 90).map (·.size) = some 2 := by kernel_rfl
theorem liesB : liesAt Tryz.prog Tryz.prog.depth 90 (2 / Tryz.prog.cellsOf 90) 0 90 1 = true := by kernel_rfl
set_option maxHeartbeats 1000000 in
set_option maxRecDepth 100000 in
theorem cc_used (b : Nat) (w : World) (h0 : w.cell? ⟨b, 0, none⟩ = some (.pointer (some ⟨b, 0, none⟩))) :
    Calls Tryz.prog 86 #[.pointer (some ⟨b, 0, none⟩)] w fun e w' => e = .returned (.tuple #[]) ∧ w' = w := by
  obtain ⟨j, hj, _⟩ := Option.map_eq_some_iff.1 sizeB
  go_enter Tryz.func86, Tryz.ntmps86
  go_wp2
  rw [Lib.run_neq_ptr_same w _ Tryz.underlying87 hj]
  go_wp2
  go_end0
  exact ⟨rfl, rfl⟩
set_option maxHeartbeats 1000000 in
set_option maxRecDepth 100000 in
theorem cc_fresh (b : Nat) (w : World) (h0 : w.cell? ⟨b, 0, none⟩ = some (.pointer none)) (hsh : w.shape? b = some (90, 2)) (hfz : w.frozen? ⟨b, 0, none⟩ = false) :
    Calls Tryz.prog 86 #[.pointer (some ⟨b, 0, none⟩)] w fun e w' => e = .returned (.tuple #[]) ∧ w' = w.setCell ⟨b, 0, none⟩ (.pointer (some ⟨b, 0, none⟩)) := by
  obtain ⟨j, hj, hjs⟩ := Option.map_eq_some_iff.1 sizeB
  go_enter Tryz.func86, Tryz.ntmps86
  go_wp2
  rw [Lib.run_to_unsafe w ⟨b, 0, none⟩ Tryz.underlying87 Tryz.underlying142 hj (by rw [hjs]; decide) hsh (Nat.zero_lt_succ 1)]
  simp only [Result.andThen]
  rw [Oper.upon_value]
  go_wp2
  rw [run_callFunc_extern Tryz.func106 (by kernel_rfl) (by kernel_rfl) (by kernel_rfl) (e := Extern.AbiNoEscape.same) (by kernel_rfl)]
  rw [Lib.run_noEscape]
  simp only [Result.andThen]
  rw [Oper.upon_value]
  go_wp2
  rw [Lib.run_from_unsafe w ⟨b, 0, none⟩ Tryz.underlying142 Tryz.underlying87 hj hsh liesB]
  simp only [Result.andThen]
  rw [Oper.upon_value]
  go_wp2
  go_end0
  exact ⟨rfl, rfl⟩
section
variable {P : Program} {ρ : Ren}
set_option maxHeartbeats 1000000 in
set_option maxRecDepth 100000 in
theorem str_row (L : Lays.n169 P ρ) (X : Builder.Extra P ρ) (b g cap : Nat) (p : Value) (cur : Array Value) (l : List UInt8) (w : World) (h0 : l ≠ []) (hbk : w.heap[b]? = some (.cells #[p, .slice (some ⟨g, 0, none⟩) l.length cap] (ρ.t 72) (0, 0)))
    (hg : w.heap[g]? = some (.cells cur (ρ.t 5) (0, 0))) (hnc : l.length ≤ cap) (hcm : cap ≤ maxLen) (hcs : cur.size = cap) (hcell : ∀ (j : Nat) (x : UInt8), l[j]? = some x → cur[j]? = some (Value.int .u8 x.toNat)) :
    Calls P (ρ.f 169) #[.pointer (some ⟨b, 0, none⟩)] w fun e w' => e = .returned (.string ⟨l.toArray⟩) ∧ w' = w.drew.freeze ⟨g, 0, none⟩ l.length := by
  have hl0 : l.length ≠ 0 := by simpa using h0
  have c1 : w.drew.cell? ⟨b, 1, none⟩ = some (.slice (some ⟨g, 0, none⟩) l.length cap) := by
    have : w.drew.heap[b]? = some (.cells #[p, .slice (some ⟨g, 0, none⟩) l.length cap] (ρ.t 72) (0, 0)) := hbk
    rw [Lib.cell_of_heap this]; rfl
  have hSD : (Builtin.unsafeSliceData_ #[(ρ.t 37)] (ρ.t 127) #[.slice (some ⟨g, 0, none⟩) l.length cap]).run P w.drew = .ok (.pointer (some ⟨g, 0, none⟩)) w.drew :=
    Lib.run_unsafeSliceData_row _ _ _ _ _ _ (by omega)
  have hUS : (Builtin.unsafeString_ #[(ρ.t 127), (ρ.t 3)] (ρ.t 9) #[.pointer (some ⟨g, 0, none⟩), .int .i64 l.length]).run P w.drew = .ok (.string ⟨l.toArray⟩) (w.drew.freeze ⟨g, 0, none⟩ l.length) := by
    refine Lib.run_unsafeString_row w.drew (ρ.t 127) (ρ.t 3) (ρ.t 9) (ρ.t 5) L.t127 X.cellsByte g cur.size (by have hg' : w.drew.heap[g]? = some (.cells cur (ρ.t 5) (0, 0)) := hg; simp [World.shape?, hg']) l h0 (by omega) (by unfold maxLen at hcm; omega) ?_
    intro j x hx
    have hg' : w.drew.heap[g]? = some (.cells cur (ρ.t 5) (0, 0)) := hg
    rw [add_lit, Nat.zero_add, Lib.cell_of_heap hg']
    exact hcell j x hx
  have mixed := L.mixed
  have t72 := L.t72; have a72 := L.a72; have z72 := L.z72; have v72 := L.v72; have u72 := run_underlying L.t72
  have t70 := L.t70; have a70 := L.a70; have z70 := L.z70; have v70 := L.v70; have u70 := run_underlying L.t70
  have t37 := L.t37; have a37 := L.a37; have z37 := L.z37; have v37 := L.v37; have u37 := run_underlying L.t37
  have t127 := L.t127; have a127 := L.a127; have z127 := L.z127; have v127 := L.v127; have u127 := run_underlying L.t127
  have t3 := L.t3; have a3 := L.a3; have z3 := L.z3; have v3 := L.v3; have u3 := run_underlying L.t3
  have t9 := L.t9; have a9 := L.a9; have z9 := L.z9; have v9 := L.v9; have u9 := run_underlying L.t9
  have t5 := X.t5; have a5 := X.a5; have z5 := X.z5; have v5 := X.v5; have u5 := run_underlying X.t5
  go_enter L.f169, Body.n169_ntmps ρ
  go_wp2
  go_region_o
  all_goals (go_wp2; go_ret; exact ⟨rfl, rfl⟩)
set_option maxHeartbeats 2000000 in
set_option maxRecDepth 100000 in
theorem str_nil (L : Lays.n169 P ρ) (X : Builder.Extra P ρ) (b : Nat) (p : Value) (w : World) (hbk : w.heap[b]? = some (.cells #[p, .slice none 0 0] (ρ.t 72) (0, 0))) :
    Calls P (ρ.f 169) #[.pointer (some ⟨b, 0, none⟩)] w fun e w' => e = .returned (.string ⟨#[]⟩) ∧ w' = w.drew := by
  have hUS := Any.unsafeString_none L X
  have c1 : w.drew.cell? ⟨b, 1, none⟩ = some (.slice none 0 0) := by
    have : w.drew.heap[b]? = some (.cells #[p, .slice none 0 0] (ρ.t 72) (0, 0)) := hbk
    rw [Lib.cell_of_heap this]; rfl
  have hSD : (Builtin.unsafeSliceData_ #[(ρ.t 37)] (ρ.t 127) #[.slice none 0 0]).run P w.drew = .ok (.pointer none) w.drew := rfl
  have mixed := L.mixed
  have t72 := L.t72; have a72 := L.a72; have z72 := L.z72; have v72 := L.v72; have u72 := run_underlying L.t72
  have t70 := L.t70; have a70 := L.a70; have z70 := L.z70; have v70 := L.v70; have u70 := run_underlying L.t70
  have t37 := L.t37; have a37 := L.a37; have z37 := L.z37; have v37 := L.v37; have u37 := run_underlying L.t37
  have t127 := L.t127; have a127 := L.a127; have z127 := L.z127; have v127 := L.v127; have u127 := run_underlying L.t127
  have t3 := L.t3; have a3 := L.a3; have z3 := L.z3; have v3 := L.v3; have u3 := run_underlying L.t3
  have t9 := L.t9; have a9 := L.a9; have z9 := L.z9; have v9 := L.v9; have u9 := run_underlying L.t9
  have t5 := X.t5; have a5 := X.a5; have z5 := X.z5; have v5 := X.v5; have u5 := run_underlying X.t5
  go_enter L.f169, Body.n169_ntmps ρ
  go_wp2
  go_region_o
  all_goals (go_wp2; go_ret; exact ⟨rfl, rfl⟩)
set_option maxHeartbeats 2000000 in
set_option maxRecDepth 100000 in
theorem str_room (L : Lays.n169 P ρ) (X : Builder.Extra P ρ) (b g cap : Nat) (p : Value) (w : World) (hc0 : cap ≠ 0) (hbk : w.heap[b]? = some (.cells #[p, .slice (some ⟨g, 0, none⟩) 0 cap] (ρ.t 72) (0, 0))) :
    Calls P (ρ.f 169) #[.pointer (some ⟨b, 0, none⟩)] w fun e w' => e = .returned (.string ⟨#[]⟩) ∧ w' = w.drew := by
  have hUS := Any.unsafeString_none L X
  have c1 : w.drew.cell? ⟨b, 1, none⟩ = some (.slice (some ⟨g, 0, none⟩) 0 cap) := by
    have : w.drew.heap[b]? = some (.cells #[p, .slice (some ⟨g, 0, none⟩) 0 cap] (ρ.t 72) (0, 0)) := hbk
    rw [Lib.cell_of_heap this]; rfl
  have hSD : (Builtin.unsafeSliceData_ #[(ρ.t 37)] (ρ.t 127) #[.slice (some ⟨g, 0, none⟩) 0 cap]).run P w.drew = .ok (.pointer (some ⟨g, 0, none⟩)) w.drew :=
    Lib.run_unsafeSliceData_row _ _ _ _ _ _ hc0
  clear hc0
  have mixed := L.mixed
  have t72 := L.t72; have a72 := L.a72; have z72 := L.z72; have v72 := L.v72; have u72 := run_underlying L.t72
  have t70 := L.t70; have a70 := L.a70; have z70 := L.z70; have v70 := L.v70; have u70 := run_underlying L.t70
  have t37 := L.t37; have a37 := L.a37; have z37 := L.z37; have v37 := L.v37; have u37 := run_underlying L.t37
  have t127 := L.t127; have a127 := L.a127; have z127 := L.z127; have v127 := L.v127; have u127 := run_underlying L.t127
  have t3 := L.t3; have a3 := L.a3; have z3 := L.z3; have v3 := L.v3; have u3 := run_underlying L.t3
  have t9 := L.t9; have a9 := L.a9; have z9 := L.z9; have v9 := L.v9; have u9 := run_underlying L.t9
  have t5 := X.t5; have a5 := X.a5; have z5 := X.z5; have v5 := X.v5; have u5 := run_underlying X.t5
  go_enter L.f169, Body.n169_ntmps ρ
  go_wp2
  go_region_o
  all_goals (go_wp2; go_ret; exact ⟨rfl, rfl⟩)
end
end Go.Tz

/- Contracts of strings.Builder's copyCheck and String, of strconv.Itoa and of strings.Count. -/
namespace Go.Tz
open Go Go.Sx Go.Proofs Go.RowKit Go.Shelf
section
variable {E : Env} {nb : Nat} {bl : Nat → OB} {S : Nat → Prop} {ρ : Nat → Go.Sx.Own} {w : World}
theorem Mem.off (h : Mem E nb bl S ρ w) {w' : World} (g : Nat) (hw : ∀ b, b ≠ g → w'.heap[b]? = w.heap[b]?) (hsz : w'.heap.size = w.heap.size) (e1 : w'.os = w.os) (e2 : w'.tape = w.tape) (e3 : w'.output = w.output) (e5 : w.drawn ≤ w'.drawn)
    (hS : ¬ S g) (hρ : ∀ k, ¬ (ρ k).has g) (hg3 : E.w0.heap.size ≤ g ∨ E.X g) : Mem E nb bl S ρ w' ∧ ∀ b, S b → S b ∧ w'.heap[b]? = w.heap[b]? := by
  have hS' : ∀ b, S b → S b ∧ w'.heap[b]? = w.heap[b]? := fun b hb => ⟨hb, hw b fun e => hS (e ▸ hb)⟩
  refine ⟨⟨?_, ?_, h.sup, h.sub, ?_, h.hi, ?_, h.own, h.dis, h.b0, h.nbz, h.ole⟩, hS'⟩
  · refine h.fr.trans (fun b hb hx => hw b fun e => ?_) e1 e2 e3 (by omega) e5
    subst e
    rcases hg3 with ho | ho
    · omega
    · exact hx ho
  · intro b hb; rw [hsz]; exact h.sb b hb
  · intro b o hbo
    obtain ⟨h1, h2⟩ := h.glob b o hbo
    exact ⟨h1, (hS' b h1).2.trans h2⟩
  · intro k hk
    exact (h.ok k hk).mono hS' (OwnLe.refl _) fun g' hg' => hw g' fun e => hρ k (e ▸ hg')
theorem Mem.drewn (h : Mem E nb bl S ρ w) {w' : World} (hh : w'.heap = w.heap) (e1 : w'.os = w.os) (e2 : w'.tape = w.tape) (e3 : w'.output = w.output) (e5 : w.drawn ≤ w'.drawn) :
    Mem E nb bl S ρ w' ∧ ∀ b, S b → S b ∧ w'.heap[b]? = w.heap[b]? := by
  have hS' : ∀ b, S b → S b ∧ w'.heap[b]? = w.heap[b]? := fun b hb => ⟨hb, by rw [hh]⟩
  refine ⟨⟨?_, ?_, h.sup, h.sub, ?_, h.hi, ?_, h.own, h.dis, h.b0, h.nbz, h.ole⟩, hS'⟩
  · exact h.fr.trans (fun b hb hx => by rw [hh]) e1 e2 e3 (by rw [hh]; exact Nat.le_refl _) e5
  · intro b hb; rw [hh]; exact h.sb b hb
  · intro b o hbo
    obtain ⟨h1, h2⟩ := h.glob b o hbo
    exact ⟨h1, (hS' b h1).2.trans h2⟩
  · intro k hk
    exact (h.ok k hk).mono hS' (OwnLe.refl _) fun g' hg' => by rw [hh]
end
def ccO (nb : Nat) (bl : Nat → OB) (xs : List AV) (k : Nat → (Nat → OB) → AV → Prop) : Prop :=
  match xs with
  | [.np b 0] =>
    match bl b with
    | .box t n cs =>
      bsplit (Nat.beq t 90 && Nat.beq n 2 && Nat.blt b nb)
        (match cs 0 with
        | .v (.pointer none) => k nb (upd bl b (.box 90 2 (listFn [.np b 0, cs 1]))) (.tup 0 fun _ => .junk)
        | .np b' 0 => bsplit (Nat.beq b' b) (k nb bl (.tup 0 fun _ => .junk)) False
        | _ => Fail b) False
    | _ => Fail b
  | _ => Fail xs
theorem cc_own (G : List (Nat × Obj)) : OwnT Tryz.prog G 86 ccO := by
  refine ⟨enters_of Tryz.func86 (by kernel_rfl) rfl, ?_, ?_⟩
  · intro nb bl xs k k' hk h
    unfold ccO at h ⊢
    split at h
    · split at h
      · rw [bsplit_iff] at h ⊢
        refine ⟨fun hc => ?_, fun hc => (h.2 hc).elim⟩
        replace h := h.1 hc
        split at h
        · exact hk _ _ _ h
        · rw [bsplit_iff] at h ⊢
          exact ⟨fun hb => hk _ _ _ (h.1 hb), fun hb => (h.2 hb).elim⟩
        · exact h
      · exact h
    · exact h
  · intro E nb bl S ρ w xs vs k _ hM hx h
    unfold ccO at h
    split at h
    · rename_i b
      split at h
      · rename_i t n cs hB
        rw [bsplit_iff] at h
        cases hc : Nat.beq t 90 && Nat.beq n 2 && Nat.blt b nb with
        | false => exact (h.2 hc).elim
        | true =>
        replace h := h.1 hc
        simp only [Bool.and_eq_true] at hc
        obtain rfl := Nat.eq_of_beq_eq_true hc.1.1
        obtain rfl := Nat.eq_of_beq_eq_true hc.1.2
        have hlt : b < nb := Nat.le_of_ble_eq_true hc.2
        match vs, hx with
        | [v], ⟨hv, _⟩ =>
        cases hv with
        | dnp hd hsh => exact (hM.box (by rw [hB]; rfl) hd).elim
        | np g hk =>
        have hbk := (hM.at b).resolve_left (by rw [hk]; simp)
        rw [hB, hk] at hbk
        obtain ⟨⟨l⟩, c1, c2, c3⟩ := hbk
        match l, c2 with
        | [x, y], _ =>
        have r0 := (c3 0 (by omega)).1
        have e0 : w.cell? ⟨g, 0, none⟩ = some x := by rw [Lib.cell_of_heap c1]; rfl
        have hr : Rel w S ρ (.np b 0) (.pointer (some ⟨g, 0, none⟩)) := .np g hk
        split at h
        · rename_i hcs
          rw [hcs] at r0
          have ex : x = .pointer none := by
            have : (⟨[x, y]⟩ : Array Value).getD 0 undef = x := rfl
            rw [this] at r0
            cases r0; rfl
          subst ex
          refine (cc_fresh g w e0 (by simp [World.shape?, c1]) (by simp [World.frozen?, c1])).mono ?_
          rintro e w' ⟨rfl, rfl⟩
          have hh : (w.setCell ⟨g, 0, none⟩ (.pointer (some ⟨g, 0, none⟩))).heap[g]? = some (.cells #[.pointer (some ⟨g, 0, none⟩), y] 90 (0, 0)) := by
            simp [World.setCell, Array.getElem?_modify, c1]
          have hw : ∀ b, b ≠ g → (w.setCell ⟨g, 0, none⟩ (.pointer (some ⟨g, 0, none⟩))).heap[b]? = w.heap[b]? := fun b hb => by
            simp [World.setCell, Array.getElem?_modify, Ne.symm hb]
          have hS : ∀ b, S b → S b ∧ (w.setCell ⟨g, 0, none⟩ (.pointer (some ⟨g, 0, none⟩))).heap[b]? = w.heap[b]? := fun b' hb' => ⟨hb', hw b' fun e' => (hM.own b g (by rw [hk]; rfl)).1 (e' ▸ hb')⟩
          obtain ⟨m1, m2⟩ := hM.write (k := b) (g := g) (B := .box 90 2 (listFn [.np b 0, cs 1])) hlt (by rw [hk]; rfl) hw (by simp [World.setCell]) rfl rfl rfl (Nat.le_refl _) (by
            rw [hk]
            refine ⟨_, hh, rfl, fun i hi => ?_⟩
            match i, hi with
            | 0, _ => exact ⟨.np g hk, rfl⟩
            | 1, _ => exact ⟨((c3 1 (by omega)).1).mono hS (OwnLe.refl _), (c3 1 (by omega)).2⟩)
          exact ⟨_, _, S, ρ, _, _, rfl, h, m1, m2, OwnLe.refl _, .tup #[] rfl fun i hi => absurd hi (Nat.not_lt_zero _)⟩
        · rename_i b' hcs
          rw [bsplit_iff] at h
          cases hb : Nat.beq b' b with
          | false => exact (h.2 hb).elim
          | true =>
          replace h := h.1 hb
          obtain rfl := Nat.eq_of_beq_eq_true hb
          rw [hcs] at r0
          have ex : x = .pointer (some ⟨g, 0, none⟩) := by
            have : (⟨[x, y]⟩ : Array Value).getD 0 undef = x := rfl
            rw [this] at r0
            cases r0 with
            | np g' hk' => rw [hk] at hk'; cases hk'; rfl
            | dnp hd => exact (hM.box (by rw [hB]; rfl) hd).elim
          subst ex
          refine (cc_used g w e0).mono ?_
          rintro e w' ⟨rfl, rfl⟩
          exact ⟨_, _, S, ρ, _, _, rfl, h, hM, fun b hb => ⟨hb, rfl⟩, OwnLe.refl _, .tup #[] rfl fun i hi => absurd hi (Nat.not_lt_zero _)⟩
        · exact h.elim
      · exact h.elim
    · exact h.elim
def strO (nb : Nat) (bl : Nat → OB) (xs : List AV) (k : Nat → (Nat → OB) → AV → Prop) : Prop :=
  match xs with
  | [.np b 0] =>
    match bl b with
    | .box t n cs =>
      bsplit (Nat.beq t 90 && Nat.beq n 2)
        (match cs 1 with
        | .v (.slice none 0 0) => k nb bl (.str [])
        | .ns j 0 len =>
          match bl j with
          | .arr e sz _ els => bsplit (Nat.beq e 5 && Nat.beq sz 1 && Nat.blt j nb) (0 < len ∧ ∃ l : List UInt8, l.length = len ∧ (∀ i, i < len → els i 0 = .v (.int .u8 (l.getD i 0).toNat)) ∧ k nb (upd bl j .dead) (.str l)) False
          | _ => Fail b
        | _ => Fail b) False
    | _ => Fail b
  | _ => Fail xs
theorem str_own (G : List (Nat × Obj)) : OwnT Tryz.prog G 58 strO := by
  refine ⟨enters_of Tryz.func58 (by kernel_rfl) rfl, ?_, ?_⟩
  · intro nb bl xs k k' hk h
    unfold strO at h ⊢
    split at h
    · split at h
      · rw [bsplit_iff] at h ⊢
        refine ⟨fun hc => ?_, fun hc => (h.2 hc).elim⟩
        replace h := h.1 hc
        split at h
        · exact hk _ _ _ h
        · split at h
          · rw [bsplit_iff] at h ⊢
            refine ⟨fun hb => ?_, fun hb => (h.2 hb).elim⟩
            obtain ⟨h1, l, h2, h3, h4⟩ := h.1 hb
            exact ⟨h1, l, h2, h3, hk _ _ _ h4⟩
          · exact h
        · exact h
      · exact h
    · exact h
  · intro E nb bl S ρ w xs vs k _ hM hx h
    unfold strO at h
    split at h
    · rename_i b
      split at h
      · rename_i t n cs hB
        rw [bsplit_iff] at h
        cases hc : Nat.beq t 90 && Nat.beq n 2 with
        | false => exact (h.2 hc).elim
        | true =>
        replace h := h.1 hc
        simp only [Bool.and_eq_true] at hc
        obtain rfl := Nat.eq_of_beq_eq_true hc.1
        obtain rfl := Nat.eq_of_beq_eq_true hc.2
        match vs, hx with
        | [v], ⟨hv, _⟩ =>
        cases hv with
        | dnp hd hsh => exact (hM.box (by rw [hB]; rfl) hd).elim
        | np g hk =>
        have hbk := (hM.at b).resolve_left (by rw [hk]; simp)
        rw [hB, hk] at hbk
        obtain ⟨⟨l⟩, c1, c2, c3⟩ := hbk
        match l, c2 with
        | [x, y], _ =>
        have r1 := (c3 1 (by omega)).1
        have ey : (⟨[x, y]⟩ : Array Value).getD 1 undef = y := rfl
        rw [ey] at r1
        split at h
        · rename_i hcs
          rw [hcs] at r1
          obtain rfl := rel_v r1
          refine (str_nil Tryz.lays169 Tryz.Builder_Extra_169 g x w c1).mono ?_
          rintro e w' ⟨rfl, rfl⟩
          obtain ⟨m1, m2⟩ := Mem.drewn hM (w' := w.drew) rfl rfl rfl rfl (Nat.le_succ _)
          exact ⟨_, _, S, ρ, _, _, rfl, h, m1, m2, OwnLe.refl _, .str []⟩
        · rename_i j len hcs
          split at h
          · rename_i el sz L els hA
            rw [bsplit_iff] at h
            cases hb : Nat.beq el 5 && Nat.beq sz 1 && Nat.blt j nb with
            | false => exact (h.2 hb).elim
            | true =>
            obtain ⟨h1, l, h2, h3, h4⟩ := h.1 hb
            simp only [Bool.and_eq_true] at hb
            obtain rfl := Nat.eq_of_beq_eq_true hb.1.1
            obtain rfl := Nat.eq_of_beq_eq_true hb.1.2
            have hj : j < nb := Nat.le_of_ble_eq_true hb.2
            rw [hcs] at r1
            cases r1 with
            | dns hd hsh => exact (hM.arr (by rw [hA]; rfl) hd).elim
            | nsr g' cap sz2 L' sub hk' hl hcap =>
              have hbj := (hM.at j).resolve_left (by rw [hk']; simp)
              rw [hA, hk'] at hbj
              exact hbj.elim
            | nsv q o cap hk' =>
              have hbj := (hM.at j).resolve_left (by rw [hk']; simp)
              rw [hA, hk'] at hbj
              exact hbj.elim
            | ns0 => exact absurd h1 (Nat.lt_irrefl _)
            | nsn => exact absurd h1 (Nat.lt_irrefl _)
            | ns g' base cap sz' L' hk' hl hcap =>
              subst h2
              have hb0 := hM.b0 _ _ _ _ _ _ hk'
              subst hb0
              have hbj := (hM.at j).resolve_left (by rw [hk']; simp)
              rw [hA, hk'] at hbj
              obtain ⟨e1, e2, q1, q2, c, q3, q4, q5⟩ := hbj
              subst e1; subst e2
              simp only [Nat.zero_add] at q4 q5 hl
              have hl0 : l ≠ [] := fun e => by rw [e] at h1; exact absurd h1 (Nat.lt_irrefl _)
              have hcell : ∀ (i : Nat) (z : UInt8), l[i]? = some z → c[i]? = some (Value.int .u8 z.toNat) := fun i z hz => by
                have hi : i < l.length := (List.getElem?_eq_some_iff.1 hz).1
                have r := (q5 i 0 (by omega) (by omega)).1
                rw [h3 i hi] at r
                have e3 := rel_v r
                rw [Nat.mul_one, Nat.add_zero, List.getD_eq_getElem?_getD, hz, Option.getD_some] at e3
                have hlt : i < c.size := by omega
                rw [Array.getD_eq_getD_getElem?, Array.getElem?_eq_getElem hlt, Option.getD_some] at e3
                rw [Array.getElem?_eq_getElem hlt, e3]
              have hrun := str_row Tryz.lays169 Tryz.Builder_Extra_169 g g' cap x c l w hl0 (by have := c1; simp only [Nat.zero_add, Nat.zero_mul, Nat.sub_zero] at this; exact this) q3 (by omega) q2 (by omega) hcell
              refine hrun.mono ?_
              rintro e w' ⟨rfl, rfl⟩
              obtain ⟨k1, k2, k3⟩ := hM.kill j hj false
              have k1' : Mem E nb (upd bl j .dead) S (upd ρ j .dead) w := by
                have : (fun b => S b ∨ (false = true ∧ (ρ j).has b)) = S := by funext b; simp
                rw [this] at k1; exact k1
              obtain ⟨o1, o2⟩ := hM.own j g' (by rw [hk']; rfl)
              obtain ⟨m1, m2⟩ := Mem.off k1' (w' := w.drew.freeze ⟨g', 0, none⟩ l.length) g' (fun b hb => by
                  unfold World.freeze
                  split
                  · rfl
                  · show (w.heap.modify g' _)[b]? = w.heap[b]?
                    simp [Array.getElem?_modify, Ne.symm hb]) (by
                  unfold World.freeze
                  split
                  · rfl
                  · show (w.heap.modify g' _).size = w.heap.size
                    simp) (by unfold World.freeze; split <;> rfl) (by unfold World.freeze; split <;> rfl) (by unfold World.freeze; split <;> rfl) (by unfold World.freeze; split <;> exact Nat.le_succ _)
                  o1 (fun i hi => by
                    by_cases e : i = j
                    · subst e; rw [upd_same] at hi; exact hi.elim
                    · rw [upd_other _ _ e] at hi; exact e (hM.dis i j g' hi (by rw [hk']; rfl))) o2
              exact ⟨_, _, S, _, _, _, rfl, h4, m1, m2, k2, .str l⟩
          · exact h.elim
        · exact h.elim
      · exact h.elim
    · exact h.elim
end Go.Tz
